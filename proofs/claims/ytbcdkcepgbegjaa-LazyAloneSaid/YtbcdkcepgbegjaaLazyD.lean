/- A Retry, asked alone: its maker is called till it makes something; then that is told. Conditions: the Retry stands in memory; the maker's own contract. -/
import Derived.Test.YtbcdkcepgbegjaaLazyC
namespace Go.Proofs.Ytbcdkcepgbegjaa
open Go.RowKit

/-- A Retry's cells: its maker, its lock, where the value is kept. -/
def retryCells (F : Value) (st : Int) (p : Option Nat) : Array Value := #[F, .int .i32 st, .int .u32 0, .pointer (p.map fun q => ⟨q, 0, none⟩)]

set_option maxRecDepth 100000 in
set_option maxHeartbeats 800000 in
theorem retry_done (r : Nat) (F : Value) (st : Int) (p : Option Nat) (w : World) (hB : Blk w r (retryCells F st p) 84) (hp : ∀ q, p = some q → ∃ x y, Blk w q #[x, y] 74) :
    Calls Try.prog 15 #[.pointer (some ⟨r, 0, none⟩), .pointer none] w fun e w' => e = .returned (.bool p.isSome) ∧ w = w' := by
  have c3 : w.cell? ⟨r, 3, none⟩ = some (.pointer (p.map fun q => ⟨q, 0, none⟩)) := hB.cell 3 rfl
  have HP := Lib.hid hp
  clear hp
  go_enter Try.func15, Try.ntmps15
  go_wp2_with (go_at_call 24; refine (step_nil _).mono ?_; rintro e w' ⟨rfl, rfl⟩)
  refine (ptr_load _ _ p c3 HP.out).mono ?_
  rintro e w' ⟨rfl, rfl⟩
  clear HP c3
  cases p
  all_goals
    go_wp2_with fail
    go_ret
    exact ⟨rfl, rfl⟩

set_option maxRecDepth 100000 in
set_option maxHeartbeats 1600000 in
theorem retry_kept (r q : Nat) (F : Value) (v : Int) (w : World) (hB : Blk w r (retryCells F 0 (some q)) 84) (hQ : Blk w q #[.int .i64 v, .int .i64 0] 74) :
    Calls Try.prog 12 #[.pointer (some ⟨r, 0, none⟩), .pointer none] w fun e w' => e = .returned (.tuple #[.int .i64 v, .int .i64 0]) ∧ Only [] w w' := by
  have c3 : w.cell? ⟨r, 3, none⟩ = some (.pointer ((some q).map fun q => ⟨q, 0, none⟩)) := hB.cell 3 rfl
  have q0 : w.cell? ⟨q, 0, none⟩ = some (.int .i64 v) := hQ.cell 0 rfl
  have q1 : w.cell? ⟨q, 1, none⟩ = some (.int .i64 0) := hQ.cell 1 rfl
  go_enter_defers Try.func12, Try.ntmps12
  go_wp2_with (go_at_call 24; refine (step_nil _).mono ?_; rintro e w' ⟨rfl, rfl⟩)
  refine (ptr_load _ _ (some q) c3 (by intro q' h; cases h; exact ⟨_, _, hQ⟩)).mono ?_
  rintro e w' ⟨rfl, rfl⟩
  go_wp2_with fail
  go_quiet (fail)
  go_wp2_with fail
  exact ⟨_, results_tmp2 rfl _ _ _, rfl, Only.drewN _ _ _⟩

set_option maxRecDepth 100000 in
set_option maxHeartbeats 1600000 in
theorem retry_tries (r x : Nat) (F : Value) (vs : Array Value) (Tx : TypeId) (o : Out) (w : World) (hB : Blk w r (retryCells F 0 none) 84)
    (hM : Makes F w [r] x vs Tx o) (hx : x < w.heap.size) (hxr : x ≠ r) :
    Calls Try.prog 12 #[.pointer (some ⟨r, 0, none⟩), .pointer none] w fun e w' => e = .returned (.tuple #[.int .i64 o.val, .int .i64 o.err]) ∧ Blk w' x vs Tx ∧ Only [r, x] w w' ∧
      (o.well = false → Blk w' r (retryCells F 0 none) 84) ∧ (o.well = true → ∃ q, w.heap.size ≤ q ∧ Blk w' q #[.int .i64 o.val, .int .i64 0] 74 ∧ Blk w' r (retryCells F 0 (some q)) 84) := by
  have c1 : w.cell? ⟨r, 1, none⟩ = some (.int .i32 0) := hB.cell 1 rfl
  have c3 : w.cell? ⟨r, 3, none⟩ = some (.pointer (Option.map (fun q => ⟨q, 0, none⟩) none)) := hB.cell 3 rfl
  have f1 := hB.free 1
  have HM := Lib.hid hM
  clear hM
  go_enter_defers Try.func12, Try.ntmps12
  go_wp2_with (go_at_call 24; refine (step_nil _).mono ?_; rintro e w' ⟨rfl, rfl⟩)
  refine (ptr_load _ _ none c3 (by intro q' h; cases h)).mono ?_
  rintro e w' ⟨rfl, rfl⟩
  go_wp2_with fail
  refine (lock_free ⟨r, 1, none⟩ _ c1 f1).mono ?_
  rintro e w1 ⟨rfl, hw⟩
  have hX1 : Only [r] w w1 := hw ▸ Only.setCell _ (by simp) _
  have hB1 : Blk w1 r (retryCells F 1 none) 84 := by rw [← hw]; exact hB.set_same 1 (.int .i32 1)
  have HM1 := Lib.hid (HM.out.later hX1 (by simp))
  have hx1 : x < w1.heap.size := Nat.lt_of_lt_of_le hx hX1.size
  clear hw hB c1 c3 f1 HM
  have c3 : w1.cell? ⟨r, 3, none⟩ = some (.pointer (Option.map (fun q => ⟨q, 0, none⟩) none)) := hB1.cell 3 rfl
  have c0 : w1.cell? ⟨r, 0, none⟩ = some F := hB1.cell 0 rfl
  go_wp2_with fail
  refine (ptr_load _ _ none c3 (by intro q' h; cases h)).mono ?_
  rintro e w' ⟨rfl, rfl⟩
  go_wp2_with fail
  refine (tries_of HM1.out hx1).mono ?_
  rintro e w2 ⟨rfl, hx2, hX2⟩
  have hB2 := hB1.only hX2 (by simpa using fun e => hxr e.symm)
  have HX2 := Lib.hid ((hX1.mono (T := [r, x]) (by simp)).trans (hX2.mono (by simp)))
  clear hX1 hB1 HM1 hx1 c3 c0 hX2
  have HE := Lib.hid (Out.well_err o)
  have HV2 := Lib.hid hx2
  have HB2 := Lib.hid hB2
  clear hx2 hB2
  go_upto_region 11 with fail
  have HR := Lib.hid (Blk.lt HB2.out)
  refine wp_name (fun w3 => Blk w3 w2.heap.size #[.int .i64 o.val, .int .i64 o.err] 74 ∧ Blk w3 x vs Tx ∧ Blk w3 r (retryCells F 1 none) 84 ∧ Hid (Only [r, x] w w3)) ⟨Blk.new _ _ _, HV2.out.alloc _, HB2.out.alloc _, Lib.hid (HX2.out.trans (Only.alloc _ _ _))⟩ ?_
  have hsz : w.heap.size ≤ w2.heap.size := HX2.out.size
  have HV := Lib.hid (Blk.lt HV2.out)
  clear HV2 HB2 HX2
  generalize w2.heap.size = q at *
  clear w2
  rintro w3 ⟨hq, hx3, hr3, HX3⟩
  have q0 : w3.cell? ⟨q, 0, none⟩ = some (.int .i64 o.val) := hq.cell 0 rfl
  have q1 : w3.cell? ⟨q, 1, none⟩ = some (.int .i64 o.err) := hq.cell 1 rfl
  cases hw : o.well with
  | true =>
    have hz := Out.err_zero hw
    rw [hz] at hq q1
    have HZ := Lib.hid hz
    have HW := Lib.hid hw
    clear hz hw HE
    have hnr : r ≠ q := fun e => by have := HR.out; omega
    have hnx : x ≠ q := fun e => by have := HV.out; omega
    have c3 : w3.cell? ⟨r, 3, none⟩ = some (.pointer none) := hr3.cell 3 rfl
    have f3 := hr3.free 3
    go_wp2_with fail
    refine (ptr_store _ _ _ q _ _ c3 f3 hq).mono ?_
    rintro e w4 ⟨rfl, hw4⟩
    have hq4 : Blk w4 q #[.int .i64 o.val, .int .i64 0] 74 := by rw [← hw4]; exact hq.set_other (a := ⟨r, 3, none⟩) (fun e => hnr e.symm) _
    have hx4 : Blk w4 x vs Tx := by rw [← hw4]; exact hx3.set_other (a := ⟨r, 3, none⟩) hxr _
    have hr4 : Blk w4 r (retryCells F 1 (some q)) 84 := by rw [← hw4]; exact hr3.set_same 3 (.pointer (some ⟨q, 0, none⟩))
    have HX4 : Hid (Only [r, x] w w4) := by rw [← hw4]; exact Lib.hid (HX3.out.trans (Only.setCell _ (by simp) _))
    clear hq hx3 hr3 q0 q1 c3 f3 hw4 HX3
    have q0 : w4.cell? ⟨q, 0, none⟩ = some (.int .i64 o.val) := hq4.cell 0 rfl
    have q1 : w4.cell? ⟨q, 1, none⟩ = some (.int .i64 0) := hq4.cell 1 rfl
    go_wp2_with fail
    go_quiet (fail)
    go_wp2_with fail
    refine leaves_cons (f := 32) (args := #[.pointer (some ⟨r, 1, none⟩)]) (by simp) (by simp [go_sem]) ?_
    refine (unlock_deferred ⟨r, 1, none⟩ _ _ (Blk.cell (w := w4.drewN nq) hr4 1 rfl) (Blk.free (w := w4.drewN nq) hr4 1)).mono ?_
    rintro e u' w5 ⟨rfl, rfl, hw5⟩
    have hX : Only [r, x] w w5 := by rw [hw5]; exact (HX4.out.trans (Only.drewN _ _ _)).trans (Only.setCell _ (by simp) _)
    have hq5 : Blk w5 q #[.int .i64 o.val, .int .i64 0] 74 := by rw [hw5]; exact Blk.set_other (w := w4.drewN nq) hq4 (a := ⟨r, 1, none⟩) (fun e => hnr e.symm) _
    have hx5 : Blk w5 x vs Tx := by rw [hw5]; exact Blk.set_other (w := w4.drewN nq) hx4 (a := ⟨r, 1, none⟩) hxr _
    have hr5 : Blk w5 r (retryCells F 0 (some q)) 84 := by rw [hw5]; exact Blk.set_same (w := w4.drewN nq) hr4 1 (.int .i32 0)
    rw [HZ.out]
    exact ⟨_, results_tmp2 rfl _ _ _, rfl, hx5, hX, fun h => Bool.noConfusion (h.symm.trans HW.out), fun _ => ⟨q, hsz, hq5, hr5⟩⟩
  | false =>
    have hb : (o.err == 0) = false := by rw [HE.out, hw]
    have HW := Lib.hid hw
    clear hw HE
    go_wp2_with fail
    go_quiet (fail)
    go_wp2_with fail
    refine leaves_cons (f := 32) (args := #[.pointer (some ⟨r, 1, none⟩)]) (by simp) (by simp [go_sem]) ?_
    refine (unlock_deferred ⟨r, 1, none⟩ _ _ (Blk.cell (w := w3.drewN nq) hr3 1 rfl) (Blk.free (w := w3.drewN nq) hr3 1)).mono ?_
    rintro e u' w5 ⟨rfl, rfl, hw5⟩
    have hX : Only [r, x] w w5 := by rw [hw5]; exact (HX3.out.trans (Only.drewN _ _ _)).trans (Only.setCell _ (by simp) _)
    have hx5 : Blk w5 x vs Tx := by rw [hw5]; exact Blk.set_other (w := w3.drewN nq) hx3 (a := ⟨r, 1, none⟩) hxr _
    have hr5 : Blk w5 r (retryCells F 0 none) 84 := by rw [hw5]; exact Blk.set_same (w := w3.drewN nq) hr3 1 (.int .i32 0)
    exact ⟨_, results_tmp2 rfl _ _ _, rfl, hx5, hX, fun _ => hr5, fun h => Bool.noConfusion (HW.out.symm.trans h)⟩

end Go.Proofs.Ytbcdkcepgbegjaa
