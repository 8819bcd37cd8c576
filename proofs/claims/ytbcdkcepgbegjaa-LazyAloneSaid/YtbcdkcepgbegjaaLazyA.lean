/- Small parts, in one goroutine: an atomic pointer, an atomic bool, a mutex that is free, a Step of a worker that is nil. Conditions: the cells are there and not frozen. -/
import Derived.Test.YtbcdkcepgbegjaaProg
import Derived.Test.YtbcdkcepgbegjaaLib
import Derived.Defers
import Derived.Recover
import Derived.Laws.LoneSync
import Derived.Laws.Pointers
import Derived.RegionTactic
import Derived.RegionCalls
namespace Go.Proofs.Ytbcdkcepgbegjaa
open Go.RowKit

set_option maxRecDepth 100000 in
set_option maxHeartbeats 400000 in
theorem step_nil (w : World) : Calls Try.prog 24 #[.pointer none] w fun e w' => e = .returned (.tuple #[]) ∧ w = w' := by
  go_enter Try.func24, Try.ntmps24
  go_wp2
  refine bodyPost_ret (results_none rfl _ _ _) rfl ?_
  exact ⟨rfl, rfl⟩

/-- sync/atomic.LoadPointer. -/
theorem run_call_load_ptr {P : Program} {f : FuncId} {fn : Func} (hf : P.funcs[f]? = some fn) (hname : (fn.name == "runtime.NumGoroutine") = false) (hb : fn.body.isNone = true) (hn : Extern.findNext fn = none)
    (he : Extern.find fn = some (Extern.Atomic.loadT .ptr)) {a : Addr} {p : Option Addr} {w : World} (hc : w.cell? a = some (.pointer p)) :
    (callFunc f #[.pointer (some a)]).run P w = .ok (.value (.pointer p)) w := by
  rw [run_callFunc_extern hf hname hb hn he]
  change (Sem.run P (do
    let a' ← asAddr (.pointer (some a))
    Extern.Atomic.read .ptr a') w).andThen _ = _
  simp [Extern.Atomic.read, asAddr, hc, Result.andThen]

/-- sync/atomic.StorePointer. -/
theorem run_call_store_ptr {P : Program} {f : FuncId} {fn : Func} (hf : P.funcs[f]? = some fn) (hname : (fn.name == "runtime.NumGoroutine") = false) (hb : fn.body.isNone = true) (hn : Extern.findNext fn = none)
    (he : Extern.find fn = some Extern.Atomic.storeT) {a : Addr} {u : Value} {p : Option Addr} {w : World} (hc : w.cell? a = some u) (hz : w.frozen? a = false) :
    (callFunc f #[.pointer (some a), .pointer p]).run P w = .ok (.value (.tuple #[])) (w.setCell a (.pointer p)) := by
  rw [run_callFunc_extern hf hname hb hn he]
  change (Sem.run P (do
    let a' ← asAddr (.pointer (some a))
    store a' (.pointer p) .atomic
    pure Extern.Atomic.none_) w).andThen _ = _
  simp [asAddr, hc, hz, run_store P w a (.pointer p) .atomic rfl, Result.andThen, Extern.Atomic.none_]

/-- An unsafe pointer turned into a pointer to the type of the block at whose head it points. -/
theorem run_convert_back {P : Program} {src dst t : TypeId} (hs : P.underlying src = some .unsafePointer) (hd : P.underlying dst = some (.pointer t))
    {q : Nat} {vs : Array Value} {w : World} (hB : Blk w q vs t) {i : TypeInfo} (hi : P.info? t = some i) (hL : liesAt P P.depth t (vs.size / P.cellsOf t) 0 t 1 = true) :
    (convert src dst (.pointer (some ⟨q, 0, none⟩))).run P w = .ok (.pointer (some ⟨q, 0, none⟩)) w := by
  unfold Blk at hB
  have hsh : w.shape? q = some (t, vs.size) := by simp [World.shape?, hB]
  simp [convert, Conv.unsafePointer, Conv.seenAt, viewAt, sizeOf, typeInfo, variablesAt, run_underlying hs, run_underlying hd, hi, hsh, hL, Result.andThen]

set_option maxRecDepth 100000 in
set_option maxHeartbeats 400000 in
theorem ptr_load (a : Addr) (w : World) (p : Option Nat) (hc : w.cell? a = some (.pointer (p.map fun q => ⟨q, 0, none⟩))) (hp : ∀ q, p = some q → ∃ x y, Blk w q #[x, y] 74) :
    Calls Try.prog 30 #[.pointer (some a)] w fun e w' => e = .returned (.pointer (p.map fun q => ⟨q, 0, none⟩)) ∧ w = w' := by
  have hl := run_call_load_ptr (P := Try.prog) Try.func43 (by kernel_rfl) (by kernel_rfl) (by kernel_rfl) (by kernel_rfl) hc
  have hv : (convert 80 78 (.pointer (p.map fun q => ⟨q, 0, none⟩))).run Try.prog w = .ok (.pointer (p.map fun q => ⟨q, 0, none⟩)) w := by
    cases p with
    | none => rfl
    | some q =>
      obtain ⟨x, y, hB⟩ := hp q rfl
      have hi : (Try.prog.info? 74).isSome = true := by kernel_rfl
      obtain ⟨i, hi⟩ := Option.isSome_iff_exists.1 hi
      exact run_convert_back (P := Try.prog) (t := 74) Try.underlying80 Try.underlying78 hB hi (by kernel_rfl)
  clear hp
  generalize Option.map (fun q => (⟨q, 0, none⟩ : Addr)) p = v at *
  go_enter Try.func30, Try.ntmps30
  go_wp2
  go_ret
  exact ⟨rfl, rfl⟩

set_option maxRecDepth 100000 in
set_option maxHeartbeats 400000 in
theorem ptr_store (a : Addr) (u : Value) (w : World) (q : Nat) (x y : Value) (hc : w.cell? a = some u) (hz : w.frozen? a = false) (hB : Blk w q #[x, y] 74) :
    Calls Try.prog 33 #[.pointer (some a), .pointer (some ⟨q, 0, none⟩)] w fun e w' => e = .returned (.tuple #[]) ∧ w.setCell a (.pointer (some ⟨q, 0, none⟩)) = w' := by
  have hv := run_convert_to_unsafe (P := Try.prog) (src := 78) (dst := 80) Try.underlying78 Try.underlying80 (by kernel_rfl) (hB.cell 0 rfl)
  have hl := run_call_store_ptr (P := Try.prog) Try.func46 (by kernel_rfl) (by kernel_rfl) (by kernel_rfl) (by kernel_rfl) (p := some ⟨q, 0, none⟩) hc hz
  go_enter Try.func33, Try.ntmps33
  go_wp2
  go_end0
  exact ⟨rfl, rfl⟩

theorem disable (w : World) : (callFunc 48 #[]).run Try.prog w = .ok (.value (.tuple #[])) w := run_call_mark0 Try.func48 (by kernel_rfl) (by kernel_rfl) (by kernel_rfl) .disable (by kernel_rfl) w
theorem enable (w : World) : (callFunc 50 #[]).run Try.prog w = .ok (.value (.tuple #[])) w := run_call_mark0 Try.func50 (by kernel_rfl) (by kernel_rfl) (by kernel_rfl) .enable (by kernel_rfl) w
theorem acquire (a : Addr) (w : World) : (callFunc 51 #[.pointer (some a)]).run Try.prog w = .ok (.value (.tuple #[])) w := run_call_marked Try.func51 (by kernel_rfl) (by kernel_rfl) (by kernel_rfl) .acquire (by kernel_rfl) a w
theorem releaseMerge (a : Addr) (w : World) : (callFunc 53 #[.pointer (some a)]).run Try.prog w = .ok (.value (.tuple #[])) w := run_call_marked Try.func53 (by kernel_rfl) (by kernel_rfl) (by kernel_rfl) .releaseMerge (by kernel_rfl) a w

set_option maxRecDepth 100000 in
set_option maxHeartbeats 800000 in
/-- Lock, the lock free. -/
theorem lock_free (a : Addr) (w : World) (hc : w.cell? a = some (.int .i32 0)) (hz : w.frozen? a = false) :
    Calls Try.prog 31 #[.pointer (some a)] w fun e w' => e = .returned (.tuple #[]) ∧ w.setCell a (.int .i32 1) = w' := by
  have hd := disable
  have he := enable
  have ha := acquire
  have hcas := run_call_cas_hit (P := Try.prog) Try.func49 (by kernel_rfl) (by kernel_rfl) (by kernel_rfl) .i32 (by kernel_rfl) (y := 1) hc hz
  have hc' : (w.setCell a (.int .i32 1)).cell? a = some (.int .i32 1) := World.cell?_setCell_same w a _ hc
  have hcv := run_convert_to_unsafe (P := Try.prog) (src := 112) (dst := 80) Try.underlying112 Try.underlying80 (by kernel_rfl) hc'
  go_enter Try.func31, Try.ntmps31
  go_wp2
  first | go_end0 | (simp only [Exit.inBlock, Exit.then]; refine bodyPost_ret (results_none rfl _ _ _) rfl ?_) | refine bodyPost_ret (results_none rfl _ _ _) rfl ?_
  go_wp2
  go_end0
  exact ⟨rfl, rfl⟩

set_option maxRecDepth 100000 in
set_option maxHeartbeats 800000 in
/-- Unlock as a deferred call: the lock is held, nobody waits. -/
theorem unlock_deferred (a : Addr) (u : FrameMode) (w : World) (hc : w.cell? a = some (.int .i32 1)) (hz : w.frozen? a = false) :
    CallsD Try.prog 32 #[.pointer (some a)] u w fun e u' w' => u' = u ∧ (e = .returned (.tuple #[]) ∧ w' = w.setCell a (.int .i32 0)) := by
  have hd := disable
  have he := enable
  have hr := releaseMerge
  have hadd := run_call_add (P := Try.prog) Try.func54 (by kernel_rfl) (by kernel_rfl) (by kernel_rfl) .i32 (by kernel_rfl) (y := -1) (s := 0) hc hz (by simp [go_sem]; rfl)
  have hcv := run_convert_to_unsafe (P := Try.prog) (src := 112) (dst := 80) Try.underlying112 Try.underlying80 (by kernel_rfl) hc
  go_enter_d Try.func32, Try.ntmps32
  go_wp2
  go_end0
  go_wp2
  go_end0
  exact ⟨rfl, rfl⟩

/-- What an atomic bool's cell holds. -/
def b32 (b : Bool) : Int := if b then 1 else 0

set_option maxRecDepth 100000 in
set_option maxHeartbeats 800000 in
theorem bool_store_d (a : Addr) (x : Value) (b : Bool) (u : FrameMode) (w : World) (hc : w.cell? a = some x) (hz : w.frozen? a = false) :
    CallsD Try.prog 28 #[.pointer (some a), .bool b] u w fun e u' w' => u' = u ∧ (e = .returned (.tuple #[]) ∧ w' = w.drew.setCell a (.int .u32 (b32 b))) := by
  have hc' : w.drew.cell? a = some x := by go_simp
  have hz' : w.drew.frozen? a = false := by go_simp
  have hst0 := run_call_store (P := Try.prog) Try.func40 (by kernel_rfl) (by kernel_rfl) (by kernel_rfl) (by kernel_rfl) (k := .u32) (y := 0) hc' hz'
  have hst1 := run_call_store (P := Try.prog) Try.func40 (by kernel_rfl) (by kernel_rfl) (by kernel_rfl) (by kernel_rfl) (k := .u32) (y := 1) hc' hz'
  cases b
  all_goals
    go_enter_d Try.func28, Try.ntmps28
    go_wp2
    go_region_calls
    all_goals (go_end0; exact ⟨rfl, rfl⟩)

set_option maxRecDepth 100000 in
set_option maxHeartbeats 800000 in
theorem bool_store (a : Addr) (x : Value) (b : Bool) (w : World) (hc : w.cell? a = some x) (hz : w.frozen? a = false) :
    Calls Try.prog 28 #[.pointer (some a), .bool b] w fun e w' => e = .returned (.tuple #[]) ∧ w' = w.drew.setCell a (.int .u32 (b32 b)) := by
  have hc' : w.drew.cell? a = some x := by go_simp
  have hz' : w.drew.frozen? a = false := by go_simp
  have hst0 := run_call_store (P := Try.prog) Try.func40 (by kernel_rfl) (by kernel_rfl) (by kernel_rfl) (by kernel_rfl) (k := .u32) (y := 0) hc' hz'
  have hst1 := run_call_store (P := Try.prog) Try.func40 (by kernel_rfl) (by kernel_rfl) (by kernel_rfl) (by kernel_rfl) (k := .u32) (y := 1) hc' hz'
  cases b
  all_goals
    go_enter Try.func28, Try.ntmps28
    go_wp2
    go_region_calls
    all_goals (go_end0; exact ⟨rfl, rfl⟩)

set_option maxRecDepth 100000 in
set_option maxHeartbeats 800000 in
theorem bool_load (a : Addr) (b : Bool) (w : World) (hc : w.cell? a = some (.int .u32 (b32 b))) :
    Calls Try.prog 34 #[.pointer (some a)] w fun e w' => e = .returned (.bool b) ∧ w = w' := by
  have hl := run_call_load (P := Try.prog) Try.func47 (by kernel_rfl) (by kernel_rfl) (by kernel_rfl) .u32 (by kernel_rfl) hc
  cases b
  all_goals
    simp only [b32, if_true, Bool.false_eq_true, if_false] at hl
    go_enter Try.func34, Try.ntmps34
    go_wp2
    go_ret
    exact ⟨rfl, rfl⟩

end Go.Proofs.Ytbcdkcepgbegjaa
