/- Next behind the last key, as a call. No condition. -/
import Derived.Test.YtacegkjobfeiiaaCAskX
set_option linter.unusedVariables false
set_option linter.unusedSimpArgs false
set_option linter.unusedSectionVars false
set_option linter.unnecessarySimpa false
namespace Go.Proofs.Ytacegkjobfeiiaa
open Go.RowKit

set_option maxRecDepth 100000 in
set_option maxHeartbeats 4000000 in
theorem next_last {tb : Nat} {r : Int} {w : World} :
    Calls Try.prog 29 #[.pointer (some ⟨tb, 0, none⟩), .pointer none, .int .i64 r, .int .i64 4294967295] w (NextPost none w) := by
  have hpz := pair_zero
  have HKEY := Lib.hid (fun w => trie_key 4294967295 w)
  have hka : isK 4294967295 = true := by decide
  rw [hka] at HKEY
  clear hka
  go_enter Try.func29, Try.ntmps29
  go_wp2_with fail
  refine calls_name (fun w1 => Blk w1 w.heap.size #[.int .i64 0, .int .i64 0] 56 ∧ Only [] w w1) ⟨Blk.new _ _ _, Only.alloc _ _ _⟩ ?_
  obtain ⟨rb, hrb⟩ : ∃ rb, w.heap.size = rb := ⟨_, rfl⟩
  have HRB := Lib.hid hrb
  rw [hrb]
  clear hrb
  rintro w1 ⟨hR1, hO1⟩
  have HR1 := Lib.hid hR1
  have HO1 := Lib.hid hO1
  have r0 := hR1.cell 0 rfl
  have r1 := hR1.cell 1 rfl
  have q0 := hR1.free 0
  have q1 := hR1.free 1
  clear hR1 hO1
  refine (HKEY.out _).mono ?_
  rintro e w2 ⟨rfl, rfl⟩
  go_wp2_with fail
  refine (trie_none 122 _).mono ?_
  rintro e w3 ⟨rfl, rfl⟩
  go_wp2_with fail
  have h5 := (HR1.out.set_same 0 (.int .i64 0)).set_same 1 (.int .i64 0)
  have o5 : Only [rb] w1 ((w1.setCell ⟨rb, 0, none⟩ (.int .i64 0)).setCell ⟨rb, 1, none⟩ (.int .i64 0)) := (Only.setCell _ (by simp) _).trans (Only.setCell _ (by simp) _)
  generalize ((w1.setCell ⟨rb, 0, none⟩ (.int .i64 0)).setCell ⟨rb, 1, none⟩ (.int .i64 0)) = w8 at h5 o5 ⊢
  have e0 : w8.cell? ⟨rb, 0, none⟩ = some (.int .i64 0) := h5.cell 0 rfl
  have e1 : w8.cell? ⟨rb, 1, none⟩ = some (.int .i64 0) := h5.cell 1 rfl
  exact bodyPost_ret (v := .tuple #[.agg #[.int .i64 0, .int .i64 0], .int .i64 122]) (by simp [results, Try.results29, go_sem, e0, e1]) rfl ⟨rfl, HO1.out.past o5 (fun b hb => by simp at hb; right; have := HRB.out; omega)⟩

end Go.Proofs.Ytacegkjobfeiiaa

