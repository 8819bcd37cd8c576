/- The document's cells asked; the statement's own makers as closures. Conditions: they stand in memory; the count of calls is small. -/
import Derived.Test.YtbcdkcepgbegjaaLazyE
namespace Go.Proofs.Ytbcdkcepgbegjaa
open Go.RowKit

set_option maxRecDepth 100000 in
set_option maxHeartbeats 1600000 in
theorem ref_first (c : Nat) (m : Mk) (w : World) (hB : Blk w c (cellCells m true 0 false false 0 0) 42) :
    Calls Try.prog 11 #[.pointer (some ⟨c, 0, none⟩)] w fun e w' => e = .returned (.tuple #[.int .i64 (m.out 1).val, .int .i64 (m.out 1).err]) ∧
      Blk w' c (cellCells m true 1 (m.out 1).well true (m.out 1).err (m.out 1).val) 42 ∧ Only [c] w w' := by
  have c3 : w.cell? ⟨c, 3, none⟩ = some (.bool true) := hB.cell 3 rfl
  have c5 : w.cell? ⟨c, 5, none⟩ = some (.bool false) := hB.cell 5 rfl
  have c6 : w.cell? ⟨c, 6, none⟩ = some (.bool false) := hB.cell 6 rfl
  have f6 := hB.free 6
  have hk : keeps (m.out 1) 0 = (m.out 1).val := by cases m.out 1 <;> rfl
  have HK := Lib.hid hk
  clear hk
  go_enter Try.func11, Try.ntmps11
  go_wp2_with (go_at_call 29; go_in)
  refine calls_name (fun w1 => Blk w1 c (cellCells m true 0 false true 0 0) 42 ∧ Only [c] w w1) ⟨hB.set_same 6 (.bool true), Only.setCell _ (by simp) _⟩ ?_
  clear hB c3 c5 c6 f6
  rintro w1 ⟨hB, hX⟩
  refine (ref_make c m true 0 true 0 0 _ hB (by omega) (by omega)).mono ?_
  rintro e w2 ⟨rfl, hB2, hX2⟩
  have HX := Lib.hid (hX.trans hX2)
  rw [show (0 : Int) + 1 = 1 from rfl, HK.out] at hB2
  rw [show (0 : Int) + 1 = 1 from rfl]
  clear hB hX hX2 HK
  have c7 : w2.cell? ⟨c, 7, none⟩ = some (.int .i64 0) := hB2.cell 7 rfl
  have f7 := hB2.free 7
  go_upto_region 7 with fail
  refine wp_name (fun w3 => Blk w3 c (cellCells m true 1 (m.out 1).well true (m.out 1).err (m.out 1).val) 42 ∧ Only [c] w w3) ⟨hB2.set_same 7 (.int .i64 (m.out 1).err), HX.out.trans (Only.setCell _ (by simp) _)⟩ ?_
  clear hB2 c7 f7 HX
  rintro w3 ⟨hB, hX⟩
  have c7 : w3.cell? ⟨c, 7, none⟩ = some (.int .i64 (m.out 1).err) := hB.cell 7 rfl
  have c8 : w3.cell? ⟨c, 8, none⟩ = some (.int .i64 (m.out 1).val) := hB.cell 8 rfl
  go_quiet (fail)
  go_wp2
  go_ret2
  exact ⟨rfl, hB, hX.trans (Only.drewN _ _ _)⟩

set_option maxRecDepth 100000 in
set_option maxHeartbeats 1600000 in
theorem ref_try (c : Nat) (m : Mk) (calls : Int) (w : World) (hB : Blk w c (cellCells m false calls false false 0 0) 42) (h0 : 0 ≤ calls) (h1 : calls ≤ 100000) :
    Calls Try.prog 11 #[.pointer (some ⟨c, 0, none⟩)] w fun e w' => e = .returned (.tuple #[.int .i64 (m.out (calls + 1)).val, .int .i64 (m.out (calls + 1)).err]) ∧
      Blk w' c (cellCells m false (calls + 1) (m.out (calls + 1)).well false 0 (m.out (calls + 1)).val) 42 ∧ Only [c] w w' := by
  have c3 : w.cell? ⟨c, 3, none⟩ = some (.bool false) := hB.cell 3 rfl
  have c5 : w.cell? ⟨c, 5, none⟩ = some (.bool false) := hB.cell 5 rfl
  have hk : keeps (m.out (calls + 1)) 0 = (m.out (calls + 1)).val := by cases m.out (calls + 1) <;> rfl
  have HK := Lib.hid hk
  clear hk
  go_enter Try.func11, Try.ntmps11
  go_wp2_with (go_at_call 29; go_in)
  refine (ref_make c m false calls false 0 0 _ hB h0 h1).mono ?_
  rintro e w2 ⟨rfl, hB2, hX2⟩
  rw [HK.out] at hB2
  clear hB c3 c5 HK
  have c8 : w2.cell? ⟨c, 8, none⟩ = some (.int .i64 (m.out (calls + 1)).val) := hB2.cell 8 rfl
  go_wp2
  go_ret2
  exact ⟨rfl, hB2, hX2⟩

def oneCells (m : Mk) (calls : Int) : Array Value := #[.int .i64 m.fails, .bool m.falls, .int .i64 m.value, .int .i64 calls]

/-- What 'next' tells. -/
def NextIs (m : Mk) (k : Int) (x : Int) : Prop := (m.fails < k ∧ x = 1) ∨ (¬ m.fails < k ∧ m.falls = true ∧ (x = 2 ∨ x = 3)) ∨ (¬ m.fails < k ∧ m.falls = false ∧ x = 0)

def NextPost (m : Mk) (x : Nat) (k : Int) (w : World) (e : Ending) (w' : World) : Prop := ∃ n : Int, e = .returned (.int .i64 n) ∧ NextIs m k n ∧ Blk w' x (oneCells m k) 33 ∧ Only [x] w w'

set_option maxRecDepth 100000 in
set_option maxHeartbeats 1600000 in
theorem one_next (x : Nat) (m : Mk) (calls : Int) (w : World) (hB : Blk w x (oneCells m calls) 33) (h0 : 0 ≤ calls) (h1 : calls ≤ 100000) :
    Calls Try.prog 22 #[.pointer (some ⟨x, 0, none⟩)] w (NextPost m x (calls + 1) w) := by
  have c3 : w.cell? ⟨x, 3, none⟩ = some (.int .i64 calls) := hB.cell 3 rfl
  have f3 := hB.free 3
  go_enter Try.func22, Try.ntmps22
  go_upto_region 2 with fail
  refine wp_name (fun w1 => Blk w1 x (oneCells m (calls + 1)) 33 ∧ Only [x] w w1) ⟨hB.set_same 3 (.int .i64 (calls + 1)), Only.setCell _ (by simp) _⟩ ?_
  clear hB c3 f3
  rintro w1 ⟨hB, hX⟩
  have c0 : w1.cell? ⟨x, 0, none⟩ = some (.int .i64 m.fails) := hB.cell 0 rfl
  have c1 : w1.cell? ⟨x, 1, none⟩ = some (.bool m.falls) := hB.cell 1 rfl
  have c2 : w1.cell? ⟨x, 2, none⟩ = some (.int .i64 m.value) := hB.cell 2 rfl
  have c3 : w1.cell? ⟨x, 3, none⟩ = some (.int .i64 (calls + 1)) := hB.cell 3 rfl
  have HB := Lib.hid hB
  have HX := Lib.hid hX
  clear hB hX
  by_cases hlt : m.fails < calls + 1
  · have hd : decide (m.fails < calls + 1) = true := by simpa using hlt
    go_quiet (fail)
    go_wp2_with fail
    go_ret
    exact ⟨1, rfl, Or.inl ⟨hlt, rfl⟩, HB.out, HX.out.trans (Only.drewN _ _ _)⟩
  · have hd : decide (m.fails < calls + 1) = false := by simpa using hlt
    have HL := Lib.hid hlt
    cases hf : m.falls with
    | true =>
      rw [hf] at c1
      have HF := Lib.hid hf
      clear hf hlt
      generalize m.value = v at c2
      go_quiet (fail)
      go_wp2_with fail
      go_ret
      refine ⟨_, rfl, Or.inr (Or.inl ⟨by have := HL.out; omega, HF.out, ?_⟩), HB.out, HX.out.trans (Only.drewN _ _ _)⟩
      have h1 : -1 ≤ v.tmod 2 ∧ v.tmod 2 ≤ 1 := by
        rcases Int.le_total 0 v with h | h
        · rw [Int.tmod_eq_emod_of_nonneg h]; omega
        · have e : v.tmod 2 = -((-v).tmod 2) := by rw [Int.neg_tmod]; omega
          rw [e, Int.tmod_eq_emod_of_nonneg (by omega)]; omega
      generalize v.tmod 2 = t at h1
      have h2 : wrap64 (t + 2) = t + 2 := by unfold wrap64; omega
      rw [h2]
      have h3 : (t + 2).tmod 2 = (t + 2) % 2 := Int.tmod_eq_emod_of_nonneg (by omega)
      rw [h3]
      have h4 : wrap64 (2 + (t + 2) % 2) = 2 + (t + 2) % 2 := by unfold wrap64; omega
      rw [h4]
      omega
    | false =>
      rw [hf] at c1
      have HF := Lib.hid hf
      clear hf hlt
      go_quiet (fail)
      go_wp2_with fail
      go_ret
      exact ⟨0, rfl, Or.inr (Or.inr ⟨by have := HL.out; omega, HF.out, rfl⟩), HB.out, HX.out.trans (Only.drewN _ _ _)⟩

theorem panicnil_run (w : World) : ∃ n, (Instr.panicnil).run Try.prog w = .ok n w := by
  unfold Instr.panicnil
  exact ⟨_, rfl⟩

/-- 'panic(nil)' panics, whatever the surroundings say of it. -/
theorem nil_panics (w : World) : ∃ v w', (Instr.panic .nilIface).run Try.prog w = .halt (.panic v) w' ∧ Only [] w w' := by
  obtain ⟨n, hn⟩ := panicnil_run w
  by_cases h : n = 1
  · refine ⟨.nilIface, w, ?_, Only.refl _ _⟩
    subst h
    simp [Instr.panic, hn, Result.andThen]
  · refine ⟨.iface 16 (.pointer (some ⟨w.heap.size, 0, none⟩)), w.alloc (.cells #[] 128), ?_, Only.alloc _ _ _⟩
    simp [Instr.panic, hn, h, runtimePanic, newVar, newRow, elemOf, run_underlying Try.underlying16, Result.andThen]
    rfl

set_option maxRecDepth 100000 in
set_option maxHeartbeats 1600000 in
theorem one_maker (b x : Nat) (m : Mk) (calls : Int) (w : World) (hP : Blk w b #[.pointer (some ⟨x, 0, none⟩)] 29) (hB : Blk w x (oneCells m calls) 33) (hbx : b ≠ x) (h0 : 0 ≤ calls) (h1 : calls ≤ 100000) :
    Calls Try.prog 21 #[.pointer (some ⟨b, 0, none⟩)] w fun e w' => MEnd (m.out (calls + 1)) e ∧ Blk w' x (oneCells m (calls + 1)) 33 ∧ Only [x] w w' := by
  have p0 : w.cell? ⟨b, 0, none⟩ = some (.pointer (some ⟨x, 0, none⟩)) := hP.cell 0 rfl
  go_enter Try.func21, Try.ntmps21
  go_wp2_with fail
  refine (one_next x m calls w hB h0 h1).mono ?_
  rintro e w2 ⟨n, rfl, hn, hB2, hX2⟩
  have hP2 := hP.only hX2 (by simpa using hbx)
  clear hP hB p0
  have p0 : w2.cell? ⟨b, 0, none⟩ = some (.pointer (some ⟨x, 0, none⟩)) := hP2.cell 0 rfl
  have c2 : w2.cell? ⟨x, 2, none⟩ = some (.int .i64 m.value) := hB2.cell 2 rfl
  have HB := Lib.hid hB2
  have HX := Lib.hid hX2
  clear hB2 hX2 hP2
  rcases hn with ⟨hlt, rfl⟩ | ⟨hlt, hf, rfl | rfl⟩ | ⟨hlt, hf, rfl⟩
  · have HO := Lib.hid (Mk.out_well hlt)
    clear hlt
    go_wp2_with fail
    go_ret2
    rw [HO.out]
    exact ⟨rfl, HB.out, HX.out⟩
  · have HO := Lib.hid (Mk.out_fell hlt hf)
    clear hlt hf
    go_wp2_with fail
    have hE : MEnd (m.out (calls + 1)) (.panicked [{ v := .iface 9 (.string ⟨#[102, 101, 108, 108]⟩), recovered := false }]) := by rw [HO.out]; exact ⟨_, rfl⟩
    exact ⟨rfl, hE, HB.out, HX.out⟩
  · have HO := Lib.hid (Mk.out_fell hlt hf)
    clear hlt hf
    obtain ⟨pv, w3, hpn, hX3⟩ := nil_panics w2
    have HX3 := Lib.hid hX3
    clear hX3
    go_wp2_with fail
    have hE : MEnd (m.out (calls + 1)) (.panicked [{ v := pv, recovered := false }]) := by rw [HO.out]; exact ⟨_, rfl⟩
    exact ⟨rfl, hE, HB.out.only HX3.out (by simp), HX.out.trans (HX3.out.mono (by simp))⟩
  · have HO := Lib.hid (Mk.out_failed hlt hf)
    clear hlt hf
    go_wp2_with fail
    go_ret2
    rw [HO.out]
    exact ⟨⟨77, rfl⟩, HB.out, HX.out⟩

end Go.Proofs.Ytbcdkcepgbegjaa
