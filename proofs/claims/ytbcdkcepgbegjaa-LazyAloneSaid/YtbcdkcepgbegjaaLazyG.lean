/- What makes a Once, a Retry, a maker's closure; a table's Get; what a table's closures come to. Conditions: what is reached stands in memory. -/
import Derived.Test.YtbcdkcepgbegjaaLazyF
import Derived.Test.YtbcdkcepgbegjaaOwn
namespace Go.Proofs.Ytbcdkcepgbegjaa
open Go.RowKit

set_option maxRecDepth 100000 in
set_option maxHeartbeats 800000 in
theorem new_once (f : FuncId) (caps : Array Value) (w : World) :
    Calls Try.prog 5 #[.func (.func f) #[] caps] w fun e w' => e = .returned (.pointer (some ⟨w.heap.size, 0, none⟩)) ∧ w.alloc (.cells (onceCells (.func (.func f) #[] caps) 0 0 0 0 false) 76) = w' := by
  go_enter Try.func5, Try.ntmps5
  go_wp2
  go_ret
  exact ⟨rfl, rfl⟩

set_option maxRecDepth 100000 in
set_option maxHeartbeats 800000 in
theorem new_retry (f : FuncId) (caps : Array Value) (w : World) :
    Calls Try.prog 7 #[.func (.func f) #[] caps] w fun e w' => e = .returned (.pointer (some ⟨w.heap.size, 0, none⟩)) ∧ w.alloc (.cells (retryCells (.func (.func f) #[] caps) 0 none) 84) = w' := by
  go_enter Try.func7, Try.ntmps7
  go_wp2
  go_ret
  exact ⟨rfl, rfl⟩

set_option maxRecDepth 100000 in
set_option maxHeartbeats 800000 in
theorem one_closure (x : Nat) (w : World) :
    Calls Try.prog 6 #[.pointer (some ⟨x, 0, none⟩)] w fun e w' => e = .returned (.func (.func 21) #[] #[.pointer (some ⟨w.heap.size, 0, none⟩)]) ∧ w.alloc (.cells #[.pointer (some ⟨x, 0, none⟩)] 29) = w' := by
  have hmf : ∀ (fn : Fn) (first cap : Array Value) (w : World), (Instr.makeFunc fn first cap).run Try.prog w = .ok (.func fn first cap) w := fun _ _ _ _ => rfl
  go_enter Try.func6, Try.ntmps6
  go_wp2
  go_ret
  exact ⟨rfl, rfl⟩

/-- A maker's closure over the box of its pointer is a maker. -/
theorem one_makes (b x : Nat) (m : Mk) (calls : Int) (w : World) (T : List Nat) (hP : Blk w b #[.pointer (some ⟨x, 0, none⟩)] 29) (hB : Blk w x (oneCells m calls) 33) (hbx : b ≠ x) (hbT : b ∉ T) (hxT : x ∉ T) (h0 : 0 ≤ calls) (h1 : calls ≤ 100000) :
    Makes (.func (.func 21) #[] #[.pointer (some ⟨b, 0, none⟩)]) w T x (oneCells m (calls + 1)) 33 (m.out (calls + 1)) := by
  refine ⟨21, _, rfl, fun w => by go_simp, fun w1 h => ?_⟩
  exact one_maker b x m calls w1 (hP.only h hbT) (hB.only h hxT) hbx h0 h1

set_option maxRecDepth 100000 in
set_option maxHeartbeats 1600000 in
/-- 'func(i int) (int, bool) { return third[i].maker()() }'. -/
theorem third_call (tv x i : Nat) (m : Mk) (calls : Int) (w : World) (n cap g : Nat) (hT : Blk w tv #[.slice (some ⟨g, 0, none⟩) n cap] 27) (hg : w.cell? ⟨g, i, none⟩ = some (.pointer (some ⟨x, 0, none⟩))) (hi : i < n)
    (hB : Blk w x (oneCells m calls) 33) (h0 : 0 ≤ calls) (h1 : calls ≤ 100000) :
    Calls Try.prog 9 #[.int .i64 i, .pointer (some ⟨tv, 0, none⟩)] w fun e w' => MEnd (m.out (calls + 1)) e ∧ Blk w' x (oneCells m (calls + 1)) 33 ∧ Only [x] w w' := by
  have t0 : w.cell? ⟨tv, 0, none⟩ = some (.slice (some ⟨g, 0, none⟩) n cap) := hT.cell 0 rfl
  have hin : (i : Int) < n := by omega
  go_enter Try.func9, Try.ntmps9
  go_wp2_with fail
  refine (one_closure x w).mono ?_
  rintro e w1 ⟨rfl, hw⟩
  have hP1 : Blk w1 w.heap.size #[.pointer (some ⟨x, 0, none⟩)] 29 := by rw [← hw]; exact Blk.new _ _ _
  have hB1 : Blk w1 x (oneCells m calls) 33 := by rw [← hw]; exact hB.alloc _
  have hX1 : Only [] w w1 := by rw [← hw]; exact Only.alloc _ _ _
  have hl := hB.lt
  clear hT hg hB t0 hw
  go_wp2_with fail
  refine (one_maker _ x m calls w1 hP1 hB1 (by omega) h0 h1).mono ?_
  rintro e w2 ⟨he, hB2, hX2⟩
  have HX := Lib.hid ((hX1.mono (T := [x]) (by simp)).trans hX2)
  have HB := Lib.hid hB2
  have HE := Lib.hid he
  clear hP1 hB1 hX1 hB2 hX2
  cases ho : m.out (calls + 1) with
  | made v =>
    rw [ho] at he
    obtain rfl : e = .returned (.tuple #[.int .i64 v, .bool true]) := he
    clear ho
    go_wp2_with fail
    go_ret2
    exact ⟨HE.out, HB.out, HX.out⟩
  | failed =>
    rw [ho] at he
    obtain ⟨y, rfl⟩ := he
    clear ho
    go_wp2_with fail
    go_ret2
    exact ⟨HE.out, HB.out, HX.out⟩
  | fell =>
    rw [ho] at he
    obtain ⟨v, rfl⟩ := he
    clear ho
    go_wp2_with fail
    exact ⟨rfl, HE.out, HB.out, HX.out⟩

set_option maxRecDepth 100000 in
set_option maxHeartbeats 1600000 in
/-- A table's closure: what it calls is the function that was handed in. -/
theorem table_call (fb iv tv x i : Nat) (m : Mk) (calls : Int) (w : World) (n cap g : Nat) (hF : Blk w fb #[.func (.func 9) #[] #[.pointer (some ⟨tv, 0, none⟩)]] 48) (hI : Blk w iv #[.int .i64 i] 3)
    (hT : Blk w tv #[.slice (some ⟨g, 0, none⟩) n cap] 27) (hg : w.cell? ⟨g, i, none⟩ = some (.pointer (some ⟨x, 0, none⟩))) (hi : i < n)
    (hB : Blk w x (oneCells m calls) 33) (h0 : 0 ≤ calls) (h1 : calls ≤ 100000) :
    Calls Try.prog 23 #[.pointer (some ⟨fb, 0, none⟩), .pointer (some ⟨iv, 0, none⟩)] w fun e w' => MEnd (m.out (calls + 1)) e ∧ Blk w' x (oneCells m (calls + 1)) 33 ∧ Only [x] w w' := by
  have t0 : w.cell? ⟨fb, 0, none⟩ = some (.func (.func 9) #[] #[.pointer (some ⟨tv, 0, none⟩)]) := hF.cell 0 rfl
  have t1 : w.cell? ⟨iv, 0, none⟩ = some (.int .i64 i) := hI.cell 0 rfl
  go_enter Try.func23, Try.ntmps23
  go_wp2_with fail
  refine (third_call tv x i m calls w n cap g hT hg hi hB h0 h1).mono ?_
  rintro e w2 ⟨he, hB2, hX2⟩
  have HX := Lib.hid hX2
  have HB := Lib.hid hB2
  have HE := Lib.hid he
  clear hF hI hT hg hB hB2 hX2 t0 t1
  cases ho : m.out (calls + 1) with
  | made v =>
    rw [ho] at he
    obtain rfl : e = .returned (.tuple #[.int .i64 v, .bool true]) := he
    clear ho
    go_wp2_with fail
    go_ret2
    exact ⟨HE.out, HB.out, HX.out⟩
  | failed =>
    rw [ho] at he
    obtain ⟨y, rfl⟩ := he
    clear ho
    go_wp2_with fail
    go_ret2
    exact ⟨HE.out, HB.out, HX.out⟩
  | fell =>
    rw [ho] at he
    obtain ⟨v, rfl⟩ := he
    clear ho
    go_wp2_with fail
    exact ⟨rfl, HE.out, HB.out, HX.out⟩

end Go.Proofs.Ytbcdkcepgbegjaa
