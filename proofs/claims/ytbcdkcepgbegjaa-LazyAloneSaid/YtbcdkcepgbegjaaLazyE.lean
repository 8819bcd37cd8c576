/- The document's cells and the statement's own makers, as calls. Conditions: they stand in memory; the count of calls is small. -/
import Derived.Test.YtbcdkcepgbegjaaLazyD
namespace Go.Proofs.Ytbcdkcepgbegjaa
open Go.RowKit

/-- A maker that is told by three numbers: how often it fails, whether it panics then, what it makes. -/
structure Mk where
  fails : Int
  falls : Bool
  value : Int

/-- What comes of its call number k. -/
def Mk.out (m : Mk) (k : Int) : Out := if m.fails < k then .made m.value else if m.falls then .fell else .failed

theorem Mk.out_well {m : Mk} {k : Int} (h : m.fails < k) : m.out k = .made m.value := by unfold Mk.out; rw [if_pos h]
theorem Mk.out_fell {m : Mk} {k : Int} (h : ¬ m.fails < k) (hf : m.falls = true) : m.out k = .fell := by unfold Mk.out; rw [if_neg h, if_pos hf]
theorem Mk.out_failed {m : Mk} {k : Int} (h : ¬ m.fails < k) (hf : m.falls = false) : m.out k = .failed := by unfold Mk.out; rw [if_neg h, hf]; rfl

/-- What a cell's number is behind a call of its maker. -/
def keeps : Out → Int → Int
  | .made v, _ => v
  | _, n => n

def cellCells (m : Mk) (once : Bool) (calls : Int) (done asked : Bool) (err number : Int) : Array Value :=
  #[.int .i64 m.fails, .bool m.falls, .int .i64 m.value, .bool once, .int .i64 calls, .bool done, .bool asked, .int .i64 err, .int .i64 number]

set_option maxRecDepth 100000 in
set_option maxHeartbeats 1600000 in
theorem ref_make (c : Nat) (m : Mk) (once : Bool) (calls : Int) (asked : Bool) (err number : Int) (w : World) (hB : Blk w c (cellCells m once calls false asked err number) 42) (h0 : 0 ≤ calls) (h1 : calls ≤ 100000) :
    Calls Try.prog 42 #[.pointer (some ⟨c, 0, none⟩)] w fun e w' => e = .returned (.int .i64 (m.out (calls + 1)).err) ∧
      Blk w' c (cellCells m once (calls + 1) (m.out (calls + 1)).well asked err (keeps (m.out (calls + 1)) number)) 42 ∧ Only [c] w w' := by
  have c4 : w.cell? ⟨c, 4, none⟩ = some (.int .i64 calls) := hB.cell 4 rfl
  have f4 := hB.free 4
  go_enter Try.func42, Try.ntmps42
  go_upto_region 2 with fail
  refine wp_name (fun w1 => Blk w1 c (cellCells m once (calls + 1) false asked err number) 42 ∧ Only [c] w w1) ⟨hB.set_same 4 (.int .i64 (calls + 1)), Only.setCell _ (by simp) _⟩ ?_
  clear hB c4 f4
  rintro w1 ⟨hB, hX⟩
  have c0 : w1.cell? ⟨c, 0, none⟩ = some (.int .i64 m.fails) := hB.cell 0 rfl
  have c1 : w1.cell? ⟨c, 1, none⟩ = some (.bool m.falls) := hB.cell 1 rfl
  have c2 : w1.cell? ⟨c, 2, none⟩ = some (.int .i64 m.value) := hB.cell 2 rfl
  have c4 : w1.cell? ⟨c, 4, none⟩ = some (.int .i64 (calls + 1)) := hB.cell 4 rfl
  have c5 : w1.cell? ⟨c, 5, none⟩ = some (.bool false) := hB.cell 5 rfl
  have c8 : w1.cell? ⟨c, 8, none⟩ = some (.int .i64 number) := hB.cell 8 rfl
  have f5 := hB.free 5
  have f8 := hB.free 8
  have HB := Lib.hid hB
  have HX := Lib.hid hX
  clear hB hX
  by_cases hlt : m.fails < calls + 1
  · have HO := Lib.hid (Mk.out_well hlt)
    have hd : decide (m.fails < calls + 1) = true := by simpa using hlt
    go_quiet (fail)
    go_wp2_with fail
    go_ret
    rw [HO.out]
    refine ⟨rfl, ?_, (HX.out.trans (Only.drewN _ _ nq)).trans ((Only.setCell _ (by simp) _).trans (Only.setCell _ (by simp) _))⟩
    exact (Blk.set_same (w := w1.drewN nq) HB.out 5 (.bool true)).set_same 8 (.int .i64 m.value)
  · have hd : decide (m.fails < calls + 1) = false := by simpa using hlt
    cases hf : m.falls with
    | true =>
      have HO := Lib.hid (Mk.out_fell hlt hf)
      rw [hf] at c1
      have HF := Lib.hid hf
      clear hf
      go_quiet (fail)
      go_wp2_with fail
      go_ret
      rw [HO.out]
      exact ⟨rfl, HB.out, HX.out.trans (Only.drewN _ _ nq)⟩
    | false =>
      have HO := Lib.hid (Mk.out_failed hlt hf)
      rw [hf] at c1
      have HF := Lib.hid hf
      clear hf
      go_quiet (fail)
      go_wp2_with fail
      go_ret
      rw [HO.out]
      exact ⟨rfl, HB.out, HX.out.trans (Only.drewN _ _ nq)⟩

set_option maxRecDepth 100000 in
set_option maxHeartbeats 1600000 in
theorem ref_done (c : Nat) (m : Mk) (once : Bool) (calls : Int) (asked : Bool) (err number : Int) (w : World) (hB : Blk w c (cellCells m once calls true asked err number) 42) :
    Calls Try.prog 11 #[.pointer (some ⟨c, 0, none⟩)] w fun e w' => e = .returned (.tuple #[.int .i64 number, .int .i64 0]) ∧ Only [] w w' := by
  have c5 : w.cell? ⟨c, 5, none⟩ = some (.bool true) := hB.cell 5 rfl
  have c8 : w.cell? ⟨c, 8, none⟩ = some (.int .i64 number) := hB.cell 8 rfl
  go_enter Try.func11, Try.ntmps11
  go_wp2
  go_ret2
  exact ⟨rfl, Only.refl _ _⟩

set_option maxRecDepth 100000 in
set_option maxHeartbeats 1600000 in
theorem ref_asked (c : Nat) (m : Mk) (calls : Int) (err number : Int) (w : World) (hB : Blk w c (cellCells m true calls false true err number) 42) :
    Calls Try.prog 11 #[.pointer (some ⟨c, 0, none⟩)] w fun e w' => e = .returned (.tuple #[.int .i64 number, .int .i64 err]) ∧ Only [] w w' := by
  have c3 : w.cell? ⟨c, 3, none⟩ = some (.bool true) := hB.cell 3 rfl
  have c5 : w.cell? ⟨c, 5, none⟩ = some (.bool false) := hB.cell 5 rfl
  have c6 : w.cell? ⟨c, 6, none⟩ = some (.bool true) := hB.cell 6 rfl
  have c7 : w.cell? ⟨c, 7, none⟩ = some (.int .i64 err) := hB.cell 7 rfl
  have c8 : w.cell? ⟨c, 8, none⟩ = some (.int .i64 number) := hB.cell 8 rfl
  go_enter Try.func11, Try.ntmps11
  go_wp2
  go_quiet (fail)
  go_wp2
  go_ret2
  exact ⟨rfl, Only.drewN _ _ _⟩

end Go.Proofs.Ytbcdkcepgbegjaa
