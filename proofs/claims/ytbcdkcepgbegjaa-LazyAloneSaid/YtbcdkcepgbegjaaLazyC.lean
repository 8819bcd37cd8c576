/- A Once, asked alone: the first time its maker is called; then it tells what came of that. Conditions: the Once stands in memory; the maker's own contract. -/
import Derived.Test.YtbcdkcepgbegjaaLazyB
namespace Go.Proofs.Ytbcdkcepgbegjaa
open Go.RowKit

theorem wpl_name {P : Program} {ops : Array Oper} {Q : Exit → Act → World → Prop} {l : List Oper} {a : Act} {w : World} (I : World → Prop) (hI : I w) (h : ∀ w1, I w1 → wpList P ops Q l a w1) : wpList P ops Q l a w := h w hI

/-- Called in any world that differs from w in the blocks T alone (and in new ones), the maker ends so, and block x holds vs behind it; it turns no other block. -/
def Makes (F : Value) (w : World) (T : List Nat) (x : Nat) (vs : Array Value) (Tx : TypeId) (o : Out) : Prop :=
  ∃ (f : FuncId) (caps : Array Value), F = .func (.func f) #[] caps ∧ (∀ w, (callFunc f caps).run Try.prog w = .ok (.enter f caps) w) ∧
    ∀ w1, Only T w w1 → Calls Try.prog f caps w1 fun e w2 => MEnd o e ∧ Blk w2 x vs Tx ∧ Only [x] w1 w2

theorem Makes.later {F : Value} {w w' : World} {T T' : List Nat} {x : Nat} {vs : Array Value} {Tx : TypeId} {o : Out} (h : Makes F w T x vs Tx o) (hO : Only T' w w') (hT : ∀ k, k ∈ T' → k ∈ T) : Makes F w' T x vs Tx o := by
  obtain ⟨f, caps, hF, he, h⟩ := h
  exact ⟨f, caps, hF, he, fun w1 h1 => h w1 ((hO.mono hT).trans h1)⟩

theorem tries_of {F : Value} {w : World} {T : List Nat} {x : Nat} {vs : Array Value} {Tx : TypeId} {o : Out} (h : Makes F w T x vs Tx o) (hx : x < w.heap.size) :
    Calls Try.prog 27 #[F] w fun e w' => e = .returned (.agg #[.int .i64 o.val, .int .i64 o.err]) ∧ Blk w' x vs Tx ∧ Only [x] w w' := by
  obtain ⟨f, caps, rfl, he, h⟩ := h
  exact tries_any f caps o [x] (fun w2 => Blk w2 x vs Tx) w (by simpa using hx) (fun w2 w' hB _ hO => hB.only hO (by simp; omega)) he (fun w1 h1 => h w1 (h1.mono (by simp)))

/-- A Once's cells: its maker, whether it was called, its lock, what came of it, whether a value is kept. -/
def onceCells (F : Value) (dn st v e : Int) (d : Bool) : Array Value := #[F, .int .u32 dn, .int .i32 st, .int .u32 0, .int .i64 v, .int .i64 e, .int .u32 (b32 d)]

set_option maxRecDepth 100000 in
set_option maxHeartbeats 1600000 in
theorem once_get1 (bp o x : Nat) (F : Value) (vs : Array Value) (Tx : TypeId) (T : List Nat) (r : Out) (w : World) (hP : Blk w bp #[.pointer (some ⟨o, 0, none⟩)] 34) (hB : Blk w o (onceCells F 0 1 0 0 false) 76)
    (hM : Makes F w T x vs Tx r) (hx : x < w.heap.size) (hxo : x ≠ o) (hpx : bp ≠ x) (hpo : bp ≠ o) :
    Calls Try.prog 26 #[.pointer (some ⟨bp, 0, none⟩)] w fun e w' => e = .returned (.tuple #[]) ∧ Blk w' o (onceCells F 0 1 r.val r.err r.well) 76 ∧ Blk w' x vs Tx ∧ Only [o, x] w w' := by
  have HM := Lib.hid hM
  clear hM
  go_enter Try.func26, Try.ntmps26
  go_upto_region 0 with fail
  go_cut [] (fun w2 => Blk w2 o (onceCells F 0 1 r.val r.err false) 76 ∧ Blk w2 x vs Tx ∧ Only [o, x] w w2)
  case first =>
    have p0 := hP.cell 0 rfl
    have c0 : w.cell? ⟨o, 0, none⟩ = some F := hB.cell 0 rfl
    have HM2 := Lib.hid (HM.out.later (Only.drew [] w) (by simp))
    have hw0 : ∀ w2, Only [x] w.drew w2 → Blk w2 bp #[.pointer (some ⟨o, 0, none⟩)] 34 ∧ Blk w2 o (onceCells F 0 1 0 0 false) 76 := fun w2 h2 => ⟨Blk.only (w := w.drew) hP h2 (by simpa using hpx), Blk.only (w := w.drew) hB h2 (by simpa using fun e => hxo e.symm)⟩
    have HW := Lib.hid hw0
    have HX := Lib.hid (show x < w.drew.heap.size from hx)
    clear hw0 HM hP hB
    go_region_with ((go_at_call 27; (with_reducible refine (tries_of HM2.out HX.out).mono ?_); rintro e w2 ⟨rfl, hx2, ho2⟩; have hb2 := (HW.out w2 ho2).2; have q0 : w2.cell? ⟨bp, 0, none⟩ = some (.pointer (some ⟨o, 0, none⟩)) := (HW.out w2 ho2).1.cell 0 rfl; have q4 : w2.cell? ⟨o, 4, none⟩ = some (.int .i64 0) := hb2.cell 4 rfl; have q5 : w2.cell? ⟨o, 5, none⟩ = some (.int .i64 0) := hb2.cell 5 rfl; have f4 := hb2.free 4; have f5 := hb2.free 5))
    all_goals (go_wp2_with fail; go_meet)
    all_goals
      exact ⟨by simpa [onceCells] using (hb2.set_same 4 (.int .i64 r.val)).set_same 5 (.int .i64 r.err), (hx2.set_other (a := ⟨o, 4, none⟩) hxo _).set_other (a := ⟨o, 5, none⟩) hxo _, ((Only.drew [o, x] w).trans (ho2.mono (by simp))).trans ((Only.setCell _ (by simp) _).trans (Only.setCell _ (by simp) _))⟩
  case rest =>
    obtain ⟨hB2, hX2, hO2⟩ := hcut
    have hP2 := hP.only hO2 (by simp [hpx, hpo])
    clear hB hP
    have p0 : wc.cell? ⟨bp, 0, none⟩ = some (.pointer (some ⟨o, 0, none⟩)) := hP2.cell 0 rfl
    have c5 : wc.cell? ⟨o, 5, none⟩ = some (.int .i64 r.err) := hB2.cell 5 rfl
    have c6 : wc.cell? ⟨o, 6, none⟩ = some (.int .u32 0) := hB2.cell 6 rfl
    have f6 := hB2.free 6
    have HE := Lib.hid (Out.well_err r)
    go_upto_region 1 with fail
    go_still_tail 9, (by kernel_rfl)
    change wpList _ _ _ _ _ wc.drew
    refine wpl_name (fun w3 => Blk w3 o (onceCells F 0 1 r.val r.err false) 76 ∧ Blk w3 x vs Tx ∧ Only [o, x] w w3) ⟨hB2, hX2, hO2.trans (Only.drew _ _)⟩ ?_
    clear hB2 hX2 hO2 hP2 p0 c5 c6 f6
    rintro w3 ⟨hB2, hX2, hO2⟩
    clear wc
    have c6 : w3.cell? ⟨o, 6, none⟩ = some (.int .u32 0) := hB2.cell 6 rfl
    have f6 := hB2.free 6
    go_wp2_with fail
    rw [HE.out]
    refine (bool_store _ _ _ _ c6 f6).mono ?_
    rintro e w4 ⟨rfl, rfl⟩
    go_wp2_with fail
    go_end0
    exact ⟨rfl, hB2.drew.set_same 6 (.int .u32 (b32 r.well)), Blk.set_other (w := w3.drew) hX2 (a := ⟨o, 6, none⟩) hxo _, (hO2.trans (Only.drew _ _)).trans (Only.setCell _ (by simp) _)⟩

set_option maxRecDepth 100000 in
set_option maxHeartbeats 1600000 in
theorem once_slow (bp o x : Nat) (F : Value) (vs : Array Value) (Tx : TypeId) (T : List Nat) (r : Out) (w : World) (hP : Blk w bp #[.pointer (some ⟨o, 0, none⟩)] 34) (hB : Blk w o (onceCells F 0 0 0 0 false) 76)
    (hM : Makes F w T x vs Tx r) (hT : o ∈ T) (hx : x < w.heap.size) (hxo : x ≠ o) (hpx : bp ≠ x) (hpo : bp ≠ o) :
    Calls Try.prog 38 #[.pointer (some ⟨o, 1, none⟩), .func (.func 26) #[] #[.pointer (some ⟨bp, 0, none⟩)]] w fun e w' => e = .returned (.tuple #[]) ∧ Blk w' o (onceCells F 1 0 r.val r.err r.well) 76 ∧ Blk w' x vs Tx ∧ Only [o, x] w w' := by
  have hnot : ∀ (x : Bool) (w : World), (Op.unary .not (.bool x)).run Try.prog w = .ok (.bool (!x)) w := fun _ _ => rfl
  have HM := Lib.hid hM
  have HT := Lib.hid hT
  clear hM hT
  have c2 : w.cell? ⟨o, 2, none⟩ = some (.int .i32 0) := hB.cell 2 rfl
  have f2 := hB.free 2
  go_enter_defers Try.func38, Try.ntmps38
  go_wp2_with (go_at_call 31; refine (lock_free ⟨o, 2, none⟩ _ c2 f2).mono ?_; rintro e w1 ⟨rfl, hw⟩)
  have hX1 : Only [o] w w1 := hw ▸ Only.setCell _ (by simp) _
  have hB1 : Blk w1 o (onceCells F 0 1 0 0 false) 76 := by rw [← hw]; simpa [onceCells] using hB.set_same 2 (.int .i32 1)
  have hP1 := hP.only hX1 (by simpa using hpo)
  have HM1 := Lib.hid (HM.out.later hX1 (by simpa using HT.out))
  have hx1 : x < w1.heap.size := Nat.lt_of_lt_of_le hx hX1.size
  clear hw hB hP c2 f2
  have b1 : w1.cell? ⟨o, 1, none⟩ = some (.int .u32 (b32 false)) := hB1.cell 1 rfl
  refine (bool_load ⟨o, 1, none⟩ false _ b1).mono ?_
  rintro e w' ⟨rfl, rfl⟩
  go_wp2_with fail
  refine (once_get1 bp o x F vs Tx T r _ hP1 hB1 HM1.out hx1 hxo hpx hpo).mono ?_
  rintro e w2 ⟨rfl, hB2, hx2, hX2⟩
  have hX2' := (hX1.mono (T := [o, x]) (by simp)).trans hX2
  have HX2 := Lib.hid hX2'
  have HV2 := Lib.hid hx2
  have c2 : w2.cell? ⟨o, 2, none⟩ = some (.int .i32 1) := hB2.cell 2 rfl
  have f2 := hB2.free 2
  have c1 : w2.cell? ⟨o, 1, none⟩ = some (.int .u32 0) := hB2.cell 1 rfl
  have f1 := hB2.free 1
  have HB2 := Lib.hid hB2
  clear hX1 hB1 hP1 hx1 b1 hX2 hX2' hx2 hB2
  go_wp2_with fail
  -- the door: two deferred calls, the last laid first
  refine leaves_cons (f := 28) (args := #[.pointer (some ⟨o, 1, none⟩), .bool true]) (by simp) (by simp [go_sem]) ?_
  refine (bool_store_d ⟨o, 1, none⟩ (.int .u32 0) true .returning _ c1 f1).mono ?_
  rintro e u' w3 ⟨rfl, rfl, hw3⟩
  have hB3 : Blk w3 o (onceCells F 1 1 r.val r.err r.well) 76 := by rw [hw3]; exact HB2.out.drew.set_same 1 (.int .u32 1)
  have hx3 : Blk w3 x vs Tx := by rw [hw3]; exact Blk.set_other (w := w2.drew) HV2.out (a := ⟨o, 1, none⟩) hxo _
  have hX3 : Only [o, x] w w3 := by rw [hw3]; exact (HX2.out.trans (Only.drew _ _)).trans (Only.setCell _ (by simp) _)
  clear HX2 HV2 HB2 c1 c2 f1 f2 hw3
  refine leaves_cons (f := 32) (args := #[.pointer (some ⟨o, 2, none⟩)]) (by simp [settle]) (by simp [go_sem]) ?_
  refine (unlock_deferred ⟨o, 2, none⟩ _ _ (hB3.cell 2 rfl) (hB3.free 2)).mono ?_
  rintro e u' w4 ⟨rfl, rfl, hw4⟩
  have hB4 : Blk w4 o (onceCells F 1 0 r.val r.err r.well) 76 := by rw [hw4]; exact hB3.set_same 2 (.int .i32 0)
  have hx4 : Blk w4 x vs Tx := by rw [hw4]; exact hx3.set_other (a := ⟨o, 2, none⟩) hxo _
  have hX4 : Only [o, x] w w4 := by rw [hw4]; exact hX3.trans (Only.setCell _ (by simp) _)
  clear hB3 hx3 hX3 hw4
  simp [Leaves, settle, results, Try.results38, hB4, hx4, hX4]

set_option maxRecDepth 100000 in
set_option maxHeartbeats 800000 in
theorem once_do_first (bp o x : Nat) (F : Value) (vs : Array Value) (Tx : TypeId) (T : List Nat) (r : Out) (w : World) (hP : Blk w bp #[.pointer (some ⟨o, 0, none⟩)] 34) (hB : Blk w o (onceCells F 0 0 0 0 false) 76)
    (hM : Makes F w T x vs Tx r) (hT : o ∈ T) (hx : x < w.heap.size) (hxo : x ≠ o) (hpx : bp ≠ x) (hpo : bp ≠ o) :
    Calls Try.prog 25 #[.pointer (some ⟨o, 1, none⟩), .func (.func 26) #[] #[.pointer (some ⟨bp, 0, none⟩)]] w fun e w' => e = .returned (.tuple #[]) ∧ Blk w' o (onceCells F 1 0 r.val r.err r.well) 76 ∧ Blk w' x vs Tx ∧ Only [o, x] w w' := by
  have HM := Lib.hid hM
  have HT := Lib.hid hT
  clear hM hT
  have b1 : w.cell? ⟨o, 1, none⟩ = some (.int .u32 (b32 false)) := hB.cell 1 rfl
  go_enter Try.func25, Try.ntmps25
  go_wp2_with (go_at_call 34; refine (bool_load ⟨o, 1, none⟩ false _ b1).mono ?_; rintro e w' ⟨rfl, rfl⟩)
  refine (once_slow bp o x F vs Tx T r _ hP hB HM.out HT.out hx hxo hpx hpo).mono ?_
  rintro e w2 ⟨rfl, hB2, hx2, hX2⟩
  clear hB hP b1
  go_wp2_with fail
  go_end0
  exact ⟨rfl, hB2, hx2, hX2⟩

set_option maxRecDepth 100000 in
set_option maxHeartbeats 800000 in
theorem once_do_done (o : Nat) (g : Value) (F : Value) (v e : Int) (d : Bool) (w : World) (hB : Blk w o (onceCells F 1 0 v e d) 76) :
    Calls Try.prog 25 #[.pointer (some ⟨o, 1, none⟩), g] w fun e w' => e = .returned (.tuple #[]) ∧ w = w' := by
  have b1 : w.cell? ⟨o, 1, none⟩ = some (.int .u32 (b32 true)) := hB.cell 1 rfl
  go_enter Try.func25, Try.ntmps25
  go_wp2_with (go_at_call 34; refine (bool_load ⟨o, 1, none⟩ true _ b1).mono ?_; rintro e w' ⟨rfl, rfl⟩)
  go_end0
  exact ⟨rfl, rfl⟩

set_option maxRecDepth 100000 in
set_option maxHeartbeats 800000 in
theorem once_first (o x : Nat) (F : Value) (vs : Array Value) (Tx : TypeId) (r : Out) (w : World) (hB : Blk w o (onceCells F 0 0 0 0 false) 76)
    (hM : Makes F w [o] x vs Tx r) (hx : x < w.heap.size) (hxo : x ≠ o) :
    Calls Try.prog 10 #[.pointer (some ⟨o, 0, none⟩), .pointer none] w fun e w' => e = .returned (.tuple #[.int .i64 r.val, .int .i64 r.err]) ∧ Blk w' o (onceCells F 1 0 r.val r.err r.well) 76 ∧ Blk w' x vs Tx ∧ Only [o, x] w w' := by
  have hmf : ∀ (fn : Fn) (first cap : Array Value) (w : World), (Instr.makeFunc fn first cap).run Try.prog w = .ok (.func fn first cap) w := fun _ _ _ _ => rfl
  have HM := Lib.hid (hM.later (Only.alloc [] w (.cells #[.pointer (some ⟨o, 0, none⟩)] 34)) (by simp))
  have hol := hB.lt
  clear hM
  go_enter Try.func10, Try.ntmps10
  go_wp2_with (go_at_call 24; refine (step_nil _).mono ?_; rintro e w' ⟨rfl, rfl⟩)
  have hB1 := hB.alloc (.cells #[.pointer (some ⟨o, 0, none⟩)] 34)
  have hP1 := Blk.new w #[.pointer (some ⟨o, 0, none⟩)] 34
  refine (once_do_first w.heap.size o x F vs Tx [o] r _ hP1 hB1 HM.out (by simp) (by simp; omega) hxo (by omega) (by omega)).mono ?_
  rintro e w2 ⟨rfl, hB2, hx2, hX2⟩
  have hP2 := hP1.only hX2 (by simp; omega)
  have HX := Lib.hid ((Only.alloc [o, x] w _).trans hX2)
  have p0 : w2.cell? ⟨w.heap.size, 0, none⟩ = some (.pointer (some ⟨o, 0, none⟩)) := hP2.cell 0 rfl
  have c4 : w2.cell? ⟨o, 4, none⟩ = some (.int .i64 r.val) := hB2.cell 4 rfl
  have c5 : w2.cell? ⟨o, 5, none⟩ = some (.int .i64 r.err) := hB2.cell 5 rfl
  clear hB1 hP1 hX2 hP2 hB
  go_wp2_with fail
  go_quiet (fail)
  go_wp2_with fail
  go_ret2
  exact ⟨rfl, hB2, hx2, HX.out.trans (Only.drewN _ _ _)⟩

set_option maxRecDepth 100000 in
set_option maxHeartbeats 800000 in
theorem once_again (o : Nat) (F : Value) (v er : Int) (d : Bool) (w : World) (hB : Blk w o (onceCells F 1 0 v er d) 76) :
    Calls Try.prog 10 #[.pointer (some ⟨o, 0, none⟩), .pointer none] w fun e w' => e = .returned (.tuple #[.int .i64 v, .int .i64 er]) ∧ Only [] w w' := by
  have hmf : ∀ (fn : Fn) (first cap : Array Value) (w : World), (Instr.makeFunc fn first cap).run Try.prog w = .ok (.func fn first cap) w := fun _ _ _ _ => rfl
  go_enter Try.func10, Try.ntmps10
  go_wp2_with (go_at_call 24; refine (step_nil _).mono ?_; rintro e w' ⟨rfl, rfl⟩)
  have hB1 := hB.alloc (.cells #[.pointer (some ⟨o, 0, none⟩)] 34)
  have hP1 := Blk.new w #[.pointer (some ⟨o, 0, none⟩)] 34
  refine (once_do_done o _ F v er d _ hB1).mono ?_
  rintro e w2 ⟨rfl, hw⟩
  have HX : Only [] w w2 := hw ▸ Only.alloc [] w _
  have p0 : w2.cell? ⟨w.heap.size, 0, none⟩ = some (.pointer (some ⟨o, 0, none⟩)) := by rw [← hw]; exact hP1.cell 0 rfl
  have c4 : w2.cell? ⟨o, 4, none⟩ = some (.int .i64 v) := by rw [← hw]; exact hB1.cell 4 rfl
  have c5 : w2.cell? ⟨o, 5, none⟩ = some (.int .i64 er) := by rw [← hw]; exact hB1.cell 5 rfl
  clear hB1 hP1 hB hw
  go_wp2_with fail
  go_quiet (fail)
  go_wp2_with fail
  go_ret2
  exact ⟨rfl, HX.trans (Only.drewN _ _ _)⟩

set_option maxRecDepth 100000 in
set_option maxHeartbeats 800000 in
theorem once_done (o : Nat) (F : Value) (dn st v er : Int) (d : Bool) (w : World) (hB : Blk w o (onceCells F dn st v er d) 76) :
    Calls Try.prog 14 #[.pointer (some ⟨o, 0, none⟩), .pointer none] w fun e w' => e = .returned (.bool d) ∧ w = w' := by
  have c6 : w.cell? ⟨o, 6, none⟩ = some (.int .u32 (b32 d)) := hB.cell 6 rfl
  go_enter Try.func14, Try.ntmps14
  go_wp2_with (go_at_call 24; refine (step_nil _).mono ?_; rintro e w' ⟨rfl, rfl⟩)
  refine (bool_load _ _ _ c6).mono ?_
  rintro e w' ⟨rfl, rfl⟩
  go_wp2_with fail
  go_ret
  exact ⟨rfl, rfl⟩

end Go.Proofs.Ytbcdkcepgbegjaa
