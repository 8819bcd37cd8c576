/- What sync/atomic's Int64 does in one goroutine, and a Step of a worker that is nil. Conditions: the cell is there, holds an int64, and is not frozen. -/
import Derived.Test.YtpknnamficegbaaGreatDoorProg
import Derived.Test.YtpknnamficegbaaGreatDoorCLib
set_option linter.unusedVariables false
set_option linter.unusedSimpArgs false
set_option linter.unusedSectionVars false
set_option linter.unnecessarySimpa false
namespace Go.Proofs.YtpknnamficegbaaGreatDoor
open Go.RowKit

/-- sync/atomic.SwapT: the number is stored; what was there is handed back. -/
theorem run_call_swap {P : Program} {f : FuncId} {fn : Func} (hf : P.funcs[f]? = some fn) (hname : (fn.name == "runtime.NumGoroutine") = false) (hb : fn.body.isNone = true) (hn : Extern.findNext fn = none) (k : IntKind)
    (he : Extern.find fn = some (Extern.Atomic.swapT (.int k))) {a : Addr} {x y : Int} {w : World} (hc : w.cell? a = some (.int k x)) (hz : w.frozen? a = false) :
    (callFunc f #[.pointer (some a), .int k y]).run P w = .ok (.value (.int k x)) (w.setCell a (.int k y)) := by
  rw [run_callFunc_extern hf hname hb hn he]
  change (Sem.run P (do
    let a' ← asAddr (.pointer (some a))
    let old ← Extern.Atomic.read (.int k) a'
    store a' (.int k y) .atomic
    pure old) w).andThen _ = _
  simp [Extern.Atomic.read, asAddr, hc, hz, run_store P w a (.int k y) .atomic rfl, Result.andThen]

set_option maxHeartbeats 400000 in
theorem step_nil (w : World) : Calls Tryz.prog 60 #[.pointer none] w fun e w' => e = .returned (.tuple #[]) ∧ w = w' := by
  go_enter Tryz.func60, Tryz.ntmps60
  go_wp2
  refine bodyPost_ret (results_none rfl _ _ _) rfl ?_
  exact ⟨rfl, rfl⟩

set_option maxHeartbeats 400000 in
theorem load_any (a : Addr) (x : Int) (w : World) (hc : w.cell? a = some (.int .i64 x)) :
    Calls Tryz.prog 67 #[.pointer (some a)] w fun e w' => e = .returned (.int .i64 x) ∧ w = w' := by
  have hl := run_call_load (P := Tryz.prog) Tryz.func114 (by kernel_rfl) (by kernel_rfl) (by kernel_rfl) .i64 (by kernel_rfl) hc
  go_enter Tryz.func67, Tryz.ntmps67
  go_wp2
  go_ret
  exact ⟨rfl, rfl⟩

set_option maxHeartbeats 400000 in
theorem store_any (a : Addr) (u : Value) (x : Int) (w : World) (hc : w.cell? a = some u) (hz : w.frozen? a = false) :
    Calls Tryz.prog 64 #[.pointer (some a), .int .i64 x] w fun e w' => e = .returned (.tuple #[]) ∧ w.setCell a (.int .i64 x) = w' := by
  have hl := run_call_store (P := Tryz.prog) Tryz.func111 (by kernel_rfl) (by kernel_rfl) (by kernel_rfl) (by kernel_rfl) (k := .i64) (y := x) hc hz
  go_enter Tryz.func64, Tryz.ntmps64
  go_wp2
  go_end0
  exact ⟨rfl, rfl⟩

set_option maxHeartbeats 400000 in
theorem cas_hit (a : Addr) (x y : Int) (w : World) (hc : w.cell? a = some (.int .i64 x)) (hz : w.frozen? a = false) :
    Calls Tryz.prog 62 #[.pointer (some a), .int .i64 x, .int .i64 y] w fun e w' => e = .returned (.bool true) ∧ w.setCell a (.int .i64 y) = w' := by
  have hl := run_call_cas_hit (P := Tryz.prog) Tryz.func109 (by kernel_rfl) (by kernel_rfl) (by kernel_rfl) .i64 (by kernel_rfl) (y := y) hc hz
  go_enter Tryz.func62, Tryz.ntmps62
  go_wp2
  go_ret
  exact ⟨rfl, rfl⟩

set_option maxHeartbeats 400000 in
theorem cas_miss (a : Addr) (x o y : Int) (w : World) (hc : w.cell? a = some (.int .i64 x)) (hz : w.frozen? a = false) (hne : ¬ x = o) :
    Calls Tryz.prog 62 #[.pointer (some a), .int .i64 o, .int .i64 y] w fun e w' => e = .returned (.bool false) ∧ w = w' := by
  have hl := run_call_cas_miss (P := Tryz.prog) Tryz.func109 (by kernel_rfl) (by kernel_rfl) (by kernel_rfl) .i64 (by kernel_rfl) (y := y) hc hz hne
  go_enter Tryz.func62, Tryz.ntmps62
  go_wp2
  go_ret
  exact ⟨rfl, rfl⟩

set_option maxHeartbeats 400000 in
theorem swap_any (a : Addr) (x y : Int) (w : World) (hc : w.cell? a = some (.int .i64 x)) (hz : w.frozen? a = false) :
    Calls Tryz.prog 84 #[.pointer (some a), .int .i64 y] w fun e w' => e = .returned (.int .i64 x) ∧ w.setCell a (.int .i64 y) = w' := by
  have hl := run_call_swap (P := Tryz.prog) Tryz.func122 (by kernel_rfl) (by kernel_rfl) (by kernel_rfl) .i64 (by kernel_rfl) (y := y) hc hz
  go_enter Tryz.func84, Tryz.ntmps84
  go_wp2
  go_ret
  exact ⟨rfl, rfl⟩

theorem load_quiet (a : Addr) (x : Int) (w : World) (n : Nat) (hc : w.cell? a = some (.int .i64 x)) :
    Calls Tryz.prog 67 #[.pointer (some a)] (w.drewN n) fun e w' => e = .returned (.int .i64 x) ∧ ∃ m, w' = w.drewN m :=
  (load_any a x (w.drewN n) hc).mono fun _ _ h => ⟨h.1, n, h.2.symm⟩

theorem made_ints (n : Nat) : madeCells #[Value.int .i64 0] n = ((List.replicate n (0 : Int)).map (Value.int .i64)).toArray := by
  apply Array.ext
  · simp [madeCells]
  · intro i h1 h2
    simp [madeCells, Nat.mod_one]

/-- 'make([]atomic.Int64, n)'. -/
theorem make_atomics (n : Nat) (h : n ≤ 1000000000) (w : World) : (Instr.makeSlice 159 (.int .i64 n) (.int .i64 n)).run Tryz.prog w = .ok (.slice (some ⟨w.heap.size, 0, none⟩) n n) (w.alloc (.cells ((List.replicate n (0 : Int)).map (Value.int .i64)).toArray 102)) := by
  obtain ⟨i, hi, hz, hs, hb⟩ := info_parts (P := Tryz.prog) (e := 102) (z := .agg #[.int .i64 0]) (size := 1) (bytes := 8) (by kernel_rfl)
  have hr := run_make (P := Tryz.prog) w 159 102 i _ Tryz.underlying159 hi hz .i64 .i64 n n (by omega) (Int.le_refl _) (by rw [hb]; omega) (by omega)
  simp only [Int.toNat_natCast, hs, Nat.mul_one] at hr
  rw [hr, ← made_ints]
  rfl

set_option maxHeartbeats 400000 in
theorem add_any (a : Addr) (x y s : Int) (w : World) (hc : w.cell? a = some (.int .i64 x)) (hz : w.frozen? a = false) (hs : (Op.intArith .add .i64 x y).run Tryz.prog w = .ok (.int .i64 s) w) :
    Calls Tryz.prog 59 #[.pointer (some a), .int .i64 y] w fun e w' => e = .returned (.int .i64 s) ∧ w.setCell a (.int .i64 s) = w' := by
  have hl := run_call_add (P := Tryz.prog) Tryz.func105 (by kernel_rfl) (by kernel_rfl) (by kernel_rfl) .i64 (by kernel_rfl) hc hz hs
  clear hs
  go_enter Tryz.func59, Tryz.ntmps59
  go_wp2
  go_ret
  exact ⟨rfl, rfl⟩

end Go.Proofs.YtpknnamficegbaaGreatDoor

