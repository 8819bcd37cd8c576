/- A maker that is tried: what comes of it; a panic is caught. Condition: the maker's own contract. -/
import Derived.Test.YtbcdkcepgbegjaaLazyA
namespace Go.Proofs.Ytbcdkcepgbegjaa
open Go.RowKit

/-- What comes of a maker: it makes a value, it fails, it panics. -/
inductive Out where
  | made (v : Int)
  | failed
  | fell

def Out.val : Out → Int
  | .made v => v
  | _ => 0
def Out.err : Out → Int
  | .made _ => 0
  | .failed => 72
  | .fell => 73
def Out.well : Out → Bool
  | .made _ => true
  | _ => false

theorem Out.well_err (o : Out) : (o.err == 0) = o.well := by cases o <;> rfl
theorem Out.err_zero {o : Out} (h : o.well = true) : o.err = 0 := by cases o <;> first | rfl | cases h
theorem Out.err_pos {o : Out} (h : o.well = false) : (o.err == 0) = false ∧ o.val = 0 := by cases o <;> first | exact ⟨rfl, rfl⟩ | cases h

/-- How a maker's call ends. -/
def MEnd (o : Out) (e : Ending) : Prop :=
  match o with
  | .made v => e = .returned (.tuple #[.int .i64 v, .bool true])
  | .failed => ∃ x : Int, e = .returned (.tuple #[.int .i64 x, .bool false])
  | .fell => ∃ v : Value, e = .panicked [{ v := v, recovered := false }]

theorem tries1_panicking (v : Value) (w : World) :
    CallsD Try.prog 39 #[] (.panicking [{ v := v, recovered := false }]) w fun e u' w' => e = .returned (.tuple #[]) ∧ u' = .panicking [{ v := v, recovered := true }] ∧ w' = w := by
  refine callsD_of_wpS Try.func39 rfl fun c₀ cs hu => ?_
  apply wpS_region
  simp [wpOpsS, go_sem, recoverD, hu, Try.ntmps39, bodyPostS, results, Try.results39]

theorem tries1_idle (w : World) :
    CallsD Try.prog 39 #[] .returning w fun e u' w' => e = .returned (.tuple #[]) ∧ u' = .returning ∧ w' = w := by
  refine callsD_of_wpS Try.func39 rfl fun c₀ cs hu => ?_
  apply wpS_region
  simp [wpOpsS, go_sem, recoverD, hu, Try.ntmps39]
  cases c₀
  simp_all [bodyPostS, results, Try.results39]

set_option maxRecDepth 100000 in
set_option maxHeartbeats 1600000 in
theorem tries_any (f : FuncId) (caps : Array Value) (o : Out) (S : List Nat) (Q : World → Prop) (w : World) (hS : ∀ k, k ∈ S → k < w.heap.size)
    (hQ : ∀ w2 w', Q w2 → w.heap.size < w2.heap.size → Only [w.heap.size] w2 w' → Q w')
    (hf : ∀ w, (callFunc f caps).run Try.prog w = .ok (.enter f caps) w)
    (h : ∀ w1, Only [] w w1 → Calls Try.prog f caps w1 fun e w2 => MEnd o e ∧ Q w2 ∧ Only S w1 w2) :
    Calls Try.prog 27 #[.func (.func f) #[] caps] w fun e w' => e = .returned (.agg #[.int .i64 o.val, .int .i64 o.err]) ∧ Q w' ∧ Only S w w' := by
  have HH := Lib.hid h
  have HQ := Lib.hid hQ
  have HS := Lib.hid hS
  clear h hQ hS
  go_enter_defers Try.func27, Try.ntmps27
  go_wp2_with fail
  have hB := Blk.new w #[.int .i64 0, .int .i64 73] 74
  refine (HH.out _ (Only.alloc [] w _)).mono ?_
  rintro e w2 ⟨he, hq, ho⟩
  have hn : w.heap.size ∉ S := fun hm => by have := HS.out _ hm; omega
  have hB2 := hB.only ho hn
  have hO2 := (Only.alloc S w _).trans ho
  have hl := hB2.lt
  have HO2 := Lib.hid hO2
  have HQ2 := Lib.hid hq
  clear hB ho hq hO2
  have c0 := hB2.cell 0 rfl
  have c1 := hB2.cell 1 rfl
  have f0 := hB2.free 0
  have f1 := hB2.free 1
  cases o with
  | made v =>
    obtain rfl : e = .returned (.tuple #[.int .i64 v, .bool true]) := he
    go_wp2_with fail
    refine leaves_cons (f := 39) (args := #[]) (by simp) (by simp [go_sem]) ?_
    refine (tries1_idle _).mono ?_
    rintro e u' w'' ⟨rfl, rfl, rfl⟩
    have hX : Only [w.heap.size] w2 ((w2.setCell ⟨w.heap.size, 0, none⟩ (.int .i64 v)).setCell ⟨w.heap.size, 1, none⟩ (.int .i64 0)) := (Only.setCell _ (by simp) _).trans (Only.setCell _ (by simp) _)
    have e1 := HQ.out _ _ HQ2.out hl hX
    have e2 := HO2.out.past hX (by simp)
    simp [Leaves, settle, results, Try.results27, go_sem, c0, c1, Out.val, Out.err, e1, e2]
  | failed =>
    obtain ⟨x, rfl⟩ := he
    go_wp2_with fail
    refine leaves_cons (f := 39) (args := #[]) (by simp) (by simp [go_sem]) ?_
    refine (tries1_idle _).mono ?_
    rintro e u' w'' ⟨rfl, rfl, rfl⟩
    have hX : Only [w.heap.size] w2 ((w2.setCell ⟨w.heap.size, 0, none⟩ (.int .i64 0)).setCell ⟨w.heap.size, 1, none⟩ (.int .i64 72)) := (Only.setCell _ (by simp) _).trans (Only.setCell _ (by simp) _)
    have e1 := HQ.out _ _ HQ2.out hl hX
    have e2 := HO2.out.past hX (by simp)
    simp [Leaves, settle, results, Try.results27, go_sem, c0, c1, Out.val, Out.err, e1, e2]
  | fell =>
    obtain ⟨v, rfl⟩ := he
    go_wp2_with fail
    refine leaves_cons (f := 39) (args := #[]) (by simp) (by simp [go_sem]) ?_
    refine (tries1_panicking _ _).mono ?_
    rintro e u' w'' ⟨rfl, rfl, rfl⟩
    have e1 := HQ2.out
    have e2 := HO2.out
    simp [Leaves, settle, results, Try.results27, go_sem, c0, c1, Out.val, Out.err, e1, e2]

end Go.Proofs.Ytbcdkcepgbegjaa
