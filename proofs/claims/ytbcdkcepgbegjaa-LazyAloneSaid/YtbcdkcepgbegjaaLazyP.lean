/- The chapter's examples answer true; the sizes of tables too. No condition. -/
import Derived.Test.YtbcdkcepgbegjaaLazyO
namespace Go.Proofs.Ytbcdkcepgbegjaa
open Go.RowKit

set_option maxRecDepth 100000 in
set_option maxHeartbeats 1600000 in
theorem sizes_true (w : World) : Calls Try.prog 17 #[] w fun e w' => e = .returned (.bool true) ∧ Only [] w w' := by
  go_enter Try.func17, Try.ntmps17
  go_wp2_with fail
  refine (new_table_bad 0 35 #[] w (by omega)).mono ?_
  rintro e w1 ⟨rfl, h1⟩
  go_wp2_with fail
  refine (new_table_bad 257 35 #[] w1 (by omega)).mono ?_
  rintro e w2 ⟨rfl, h2⟩
  go_wp2_with fail
  refine (new_table 256 (by omega) (by omega) 35 #[] w2).mono ?_
  rintro e w3 ⟨tb, fb, v, ow, us, rfl, _, h3⟩
  go_wp2_with fail
  go_ret
  exact ⟨rfl, (h1.trans h2).trans h3⟩

set_option maxRecDepth 100000 in
set_option maxHeartbeats 800000 in
theorem known1_call (nb : Nat) (a : Int) (w : World) (hB : Blk w nb #[.int .i64 a] 3) (h0 : 0 ≤ a) (h1 : a ≤ 1000) :
    Calls Try.prog 18 #[.pointer (some ⟨nb, 0, none⟩)] w fun e w' => MEnd (.made 7) e ∧ Blk w' nb #[.int .i64 (a + 1)] 3 ∧ Only [nb] w w' := by
  have c0 : w.cell? ⟨nb, 0, none⟩ = some (.int .i64 a) := hB.cell 0 rfl
  have f0 := hB.free 0
  have HB := Lib.hid hB
  clear hB
  go_enter Try.func18, Try.ntmps18
  go_wp2
  go_ret2
  exact ⟨rfl, HB.out.set_same 0 (.int .i64 (a + 1)), Only.setCell _ (by simp) _⟩

set_option maxRecDepth 100000 in
set_option maxHeartbeats 800000 in
theorem known2_call (nb : Nat) (vs : Array Value) (T : TypeId) (w : World) (hB : Blk w nb vs T) :
    Calls Try.prog 19 #[] w fun e w' => MEnd .fell e ∧ Blk w' nb vs T ∧ Only [nb] w w' := by
  go_enter Try.func19, Try.ntmps19
  go_wp2
  exact ⟨rfl, ⟨_, rfl⟩, hB, Only.refl _ _⟩

set_option maxRecDepth 100000 in
set_option maxHeartbeats 800000 in
theorem known3_first (kb : Nat) (w : World) (hB : Blk w kb #[.int .i64 0] 3) :
    Calls Try.prog 20 #[.pointer (some ⟨kb, 0, none⟩)] w fun e w' => MEnd .failed e ∧ Blk w' kb #[.int .i64 1] 3 ∧ Only [kb] w w' := by
  have c0 : w.cell? ⟨kb, 0, none⟩ = some (.int .i64 0) := hB.cell 0 rfl
  have f0 := hB.free 0
  have HB := Lib.hid hB
  clear hB
  go_enter Try.func20, Try.ntmps20
  go_wp2
  go_quiet (fail)
  go_wp2
  go_ret2
  exact ⟨⟨7, rfl⟩, HB.out.set_same 0 (.int .i64 1), (Only.setCell (S := [kb]) w (a := ⟨kb, 0, none⟩) (by simp) _).trans (Only.drewN _ _ _)⟩

set_option maxRecDepth 100000 in
set_option maxHeartbeats 800000 in
theorem known3_second (kb : Nat) (w : World) (hB : Blk w kb #[.int .i64 1] 3) :
    Calls Try.prog 20 #[.pointer (some ⟨kb, 0, none⟩)] w fun e w' => MEnd (.made 7) e ∧ Blk w' kb #[.int .i64 2] 3 ∧ Only [kb] w w' := by
  have c0 : w.cell? ⟨kb, 0, none⟩ = some (.int .i64 1) := hB.cell 0 rfl
  have f0 := hB.free 0
  have HB := Lib.hid hB
  clear hB
  go_enter Try.func20, Try.ntmps20
  go_wp2
  go_quiet (fail)
  go_wp2
  go_ret2
  exact ⟨rfl, HB.out.set_same 0 (.int .i64 2), (Only.setCell (S := [kb]) w (a := ⟨kb, 0, none⟩) (by simp) _).trans (Only.drewN _ _ _)⟩

theorem known1_makes (nb : Nat) (a : Int) (w : World) (T : List Nat) (hB : Blk w nb #[.int .i64 a] 3) (hT : nb ∉ T) (h0 : 0 ≤ a) (h1 : a ≤ 1000) : Makes (.func (.func 18) #[] #[.pointer (some ⟨nb, 0, none⟩)]) w T nb #[.int .i64 (a + 1)] 3 (.made 7) :=
  ⟨18, _, rfl, fun w => by go_simp, fun w1 h => known1_call nb a w1 (hB.only h hT) h0 h1⟩

theorem known2_makes (nb : Nat) (vs : Array Value) (Tx : TypeId) (w : World) (T : List Nat) (hB : Blk w nb vs Tx) (hT : nb ∉ T) : Makes (.func (.func 19) #[] #[]) w T nb vs Tx .fell :=
  ⟨19, _, rfl, fun w => by go_simp, fun w1 h => known2_call nb vs Tx w1 (hB.only h hT)⟩

theorem known3_makes1 (kb : Nat) (w : World) (T : List Nat) (hB : Blk w kb #[.int .i64 0] 3) (hT : kb ∉ T) : Makes (.func (.func 20) #[] #[.pointer (some ⟨kb, 0, none⟩)]) w T kb #[.int .i64 1] 3 .failed :=
  ⟨20, _, rfl, fun w => by go_simp, fun w1 h => known3_first kb w1 (hB.only h hT)⟩

theorem known3_makes2 (kb : Nat) (w : World) (T : List Nat) (hB : Blk w kb #[.int .i64 1] 3) (hT : kb ∉ T) : Makes (.func (.func 20) #[] #[.pointer (some ⟨kb, 0, none⟩)]) w T kb #[.int .i64 2] 3 (.made 7) :=
  ⟨20, _, rfl, fun w => by go_simp, fun w1 h => known3_second kb w1 (hB.only h hT)⟩

theorem sz_alloc (w : World) (o : Obj) : (w.alloc o).heap.size = w.heap.size + 1 := by simp

/-- Five blocks whole. -/
structure Five (w : World) (nb o p kb r : Nat) (vn vo vp vk vr : Array Value) : Prop where
  n : Blk w nb vn 3
  o : Blk w o vo 76
  p : Blk w p vp 76
  k : Blk w kb vk 3
  r : Blk w r vr 84

theorem Five.only {w w' : World} {nb o p kb r : Nat} {vn vo vp vk vr : Array Value} {S : List Nat} (h : Five w nb o p kb r vn vo vp vk vr) (hO : Only S w w') (h1 : nb ∉ S) (h2 : o ∉ S) (h3 : p ∉ S) (h4 : kb ∉ S) (h5 : r ∉ S) : Five w' nb o p kb r vn vo vp vk vr :=
  ⟨h.n.only hO h1, h.o.only hO h2, h.p.only hO h3, h.k.only hO h4, h.r.only hO h5⟩

def fn1 (nb : Nat) : Value := .func (.func 18) #[] #[.pointer (some ⟨nb, 0, none⟩)]
def fn2 : Value := .func (.func 19) #[] #[]
def fn3 (kb : Nat) : Value := .func (.func 20) #[] #[.pointer (some ⟨kb, 0, none⟩)]

set_option maxRecDepth 100000 in
set_option maxHeartbeats 4000000 in
theorem known_true (w : World) : Calls Try.prog 4 #[] w fun e w' => e = .returned (.bool true) ∧ Only [] w w' := by
  have hmf : ∀ (fn : Fn) (first cap : Array Value) (w : World), (Instr.makeFunc fn first cap).run Try.prog w = .ok (.func fn first cap) w := fun _ _ _ _ => rfl
  go_enter Try.func4, Try.ntmps4
  go_wp2_with fail
  refine (new_once 18 _ _).mono ?_
  rintro e w' ⟨rfl, rfl⟩
  go_wp2_with fail
  refine (new_once 19 #[] _).mono ?_
  rintro e w' ⟨rfl, rfl⟩
  go_wp2_with fail
  refine (new_retry 20 _ _).mono ?_
  rintro e w' ⟨rfl, rfl⟩
  go_wp2_with fail
  have hA := Blk.new w #[.int .i64 0] 3
  have hB := Blk.new (w.alloc (.cells #[.int .i64 0] 3)) (onceCells (fn1 w.heap.size) 0 0 0 0 false) 76
  have hC := Blk.new ((w.alloc (.cells #[.int .i64 0] 3)).alloc (.cells (onceCells (fn1 w.heap.size) 0 0 0 0 false) 76)) (onceCells fn2 0 0 0 0 false) 76
  have hD := Blk.new (((w.alloc (.cells #[.int .i64 0] 3)).alloc (.cells (onceCells (fn1 w.heap.size) 0 0 0 0 false) 76)).alloc (.cells (onceCells fn2 0 0 0 0 false) 76)) #[.int .i64 0] 3
  have hE := Blk.new ((((w.alloc (.cells #[.int .i64 0] 3)).alloc (.cells (onceCells (fn1 w.heap.size) 0 0 0 0 false) 76)).alloc (.cells (onceCells fn2 0 0 0 0 false) 76)).alloc (.cells #[.int .i64 0] 3)) (retryCells (fn3 (w.heap.size + 1 + 1 + 1)) 0 none) 84
  simp only [sz_alloc] at hA hB hC hD hE
  refine calls_name (fun w5 => Five w5 w.heap.size (w.heap.size + 1) (w.heap.size + 1 + 1) (w.heap.size + 1 + 1 + 1) (w.heap.size + 1 + 1 + 1 + 1) #[.int .i64 0] (onceCells (fn1 w.heap.size) 0 0 0 0 false) (onceCells fn2 0 0 0 0 false) #[.int .i64 0] (retryCells (fn3 (w.heap.size + 1 + 1 + 1)) 0 none) ∧ Only [] w w5)
    ⟨⟨(((hA.alloc _).alloc _).alloc _).alloc _, ((hB.alloc _).alloc _).alloc _, (hC.alloc _).alloc _, hD.alloc _, hE⟩, ((((Only.alloc _ _ _).trans (Only.alloc _ _ _)).trans (Only.alloc _ _ _)).trans (Only.alloc _ _ _)).trans (Only.alloc _ _ _)⟩ ?_
  clear hA hB hC hD hE
  rintro w5 ⟨F, hX⟩
  have HW : Hid (w.heap.size = w.heap.size) := Lib.hid rfl
  obtain ⟨nb, hnb⟩ : ∃ nb, nb = w.heap.size := ⟨_, rfl⟩
  obtain ⟨o, ho⟩ : ∃ o, o = nb + 1 := ⟨_, rfl⟩
  obtain ⟨p, hp⟩ : ∃ p, p = o + 1 := ⟨_, rfl⟩
  obtain ⟨kb, hk⟩ : ∃ kb, kb = p + 1 := ⟨_, rfl⟩
  obtain ⟨r, hr⟩ : ∃ r, r = kb + 1 := ⟨_, rfl⟩
  rw [← hnb, ← ho, ← hp, ← hk, ← hr] at F
  rw [← hnb, ← ho, ← hp, ← hk, ← hr]
  have HX := Lib.hid hX
  have HB := Lib.hid (show w.heap.size ≤ nb ∧ nb < o ∧ o < p ∧ p < kb ∧ kb < r by omega)
  clear hX hnb ho hp hk hr HW
  refine (once_done o _ 0 0 0 0 false w5 F.o).mono ?_
  rintro e w' ⟨rfl, rfl⟩
  go_wp2_with fail
  refine (retry_done r _ 0 none w5 F.r (by intro q h; cases h)).mono ?_
  rintro e w' ⟨rfl, rfl⟩
  go_wp2_with fail
  refine (show Calls Try.prog 10 #[.pointer (some ⟨o, 0, none⟩), .pointer none] w5 (fun e w' => e = .returned (.tuple #[.int .i64 7, .int .i64 0]) ∧ Blk w' o (onceCells (fn1 nb) 1 0 7 0 true) 76 ∧ Blk w' nb #[.int .i64 1] 3 ∧ Only [o, nb] w5 w') from once_first o nb _ _ _ (.made 7) w5 F.o (known1_makes nb 0 w5 [o] F.n (by have := HB.out; simp; omega) (by omega) (by omega)) F.n.lt (by have := HB.out; omega)).mono ?_
  rintro e w6 ⟨rfl, ho, hn, hO⟩
  have F1 : Five w6 nb o p kb r #[.int .i64 1] (onceCells (fn1 nb) 1 0 7 0 true) (onceCells fn2 0 0 0 0 false) #[.int .i64 0] (retryCells (fn3 kb) 0 none) := ⟨hn, ho, F.p.only hO (by have := HB.out; simp; omega), F.k.only hO (by have := HB.out; simp; omega), F.r.only hO (by have := HB.out; simp; omega)⟩
  have HX1 := Lib.hid (HX.out.past hO (by have := HB.out; simp; omega))
  clear F HX ho hn hO
  go_wp2_with fail
  refine (once_again o _ 7 0 true w6 F1.o).mono ?_
  rintro e w7 ⟨rfl, hO⟩
  have F2 := F1.only hO (by simp) (by simp) (by simp) (by simp) (by simp)
  have HX2 := Lib.hid (HX1.out.trans hO)
  clear F1 HX1 hO
  go_wp2_with fail
  refine (show Calls Try.prog 10 #[.pointer (some ⟨p, 0, none⟩), .pointer none] w7 (fun e w' => e = .returned (.tuple #[.int .i64 0, .int .i64 73]) ∧ Blk w' p (onceCells fn2 1 0 0 73 false) 76 ∧ Blk w' nb #[.int .i64 1] 3 ∧ Only [p, nb] w7 w') from once_first p nb _ _ _ .fell w7 F2.p (known2_makes nb _ _ w7 [p] F2.n (by have := HB.out; simp; omega)) F2.n.lt (by have := HB.out; omega)).mono ?_
  rintro e w8 ⟨rfl, hp, hn, hO⟩
  have F3 : Five w8 nb o p kb r #[.int .i64 1] (onceCells (fn1 nb) 1 0 7 0 true) (onceCells fn2 1 0 0 73 false) #[.int .i64 0] (retryCells (fn3 kb) 0 none) := ⟨hn, F2.o.only hO (by have := HB.out; simp; omega), hp, F2.k.only hO (by have := HB.out; simp; omega), F2.r.only hO (by have := HB.out; simp; omega)⟩
  have HX3 := Lib.hid (HX2.out.past hO (by have := HB.out; simp; omega))
  clear F2 HX2 hp hn hO
  go_wp2_with fail
  refine (once_again p _ 0 73 false w8 F3.p).mono ?_
  rintro e w9 ⟨rfl, hO⟩
  have F4 := F3.only hO (by simp) (by simp) (by simp) (by simp) (by simp)
  have HX4 := Lib.hid (HX3.out.trans hO)
  clear F3 HX3 hO
  go_wp2_with fail
  refine (show Calls Try.prog 12 #[.pointer (some ⟨r, 0, none⟩), .pointer none] w9 (fun e w' => e = .returned (.tuple #[.int .i64 0, .int .i64 72]) ∧ Blk w' kb #[.int .i64 1] 3 ∧ Only [r, kb] w9 w' ∧ (false = false → Blk w' r (retryCells (fn3 kb) 0 none) 84) ∧ (false = true → ∃ q, w9.heap.size ≤ q ∧ Blk w' q #[.int .i64 0, .int .i64 0] 74 ∧ Blk w' r (retryCells (fn3 kb) 0 (some q)) 84)) from retry_tries r kb _ _ _ .failed w9 F4.r (known3_makes1 kb w9 [r] F4.k (by have := HB.out; simp; omega)) F4.k.lt (by have := HB.out; omega)).mono ?_
  rintro e w10 ⟨rfl, hk, hO, h0, _⟩
  have F5 : Five w10 nb o p kb r #[.int .i64 1] (onceCells (fn1 nb) 1 0 7 0 true) (onceCells fn2 1 0 0 73 false) #[.int .i64 1] (retryCells (fn3 kb) 0 none) := ⟨F4.n.only hO (by have := HB.out; simp; omega), F4.o.only hO (by have := HB.out; simp; omega), F4.p.only hO (by have := HB.out; simp; omega), hk, h0 rfl⟩
  have HX5 := Lib.hid (HX4.out.past hO (by have := HB.out; simp; omega))
  clear F4 HX4 hk hO h0
  go_wp2_with fail
  refine (show Calls Try.prog 12 #[.pointer (some ⟨r, 0, none⟩), .pointer none] w10 (fun e w' => e = .returned (.tuple #[.int .i64 7, .int .i64 0]) ∧ Blk w' kb #[.int .i64 2] 3 ∧ Only [r, kb] w10 w' ∧ (true = false → Blk w' r (retryCells (fn3 kb) 0 none) 84) ∧ (true = true → ∃ q, w10.heap.size ≤ q ∧ Blk w' q #[.int .i64 7, .int .i64 0] 74 ∧ Blk w' r (retryCells (fn3 kb) 0 (some q)) 84)) from retry_tries r kb _ _ _ (.made 7) w10 F5.r (known3_makes2 kb w10 [r] F5.k (by have := HB.out; simp; omega)) F5.k.lt (by have := HB.out; omega)).mono ?_
  rintro e w11 ⟨rfl, hk, hO, _, h1⟩
  obtain ⟨q, _, hq, hr⟩ := h1 rfl
  have F6 : Five w11 nb o p kb r #[.int .i64 1] (onceCells (fn1 nb) 1 0 7 0 true) (onceCells fn2 1 0 0 73 false) #[.int .i64 2] (retryCells (fn3 kb) 0 (some q)) := ⟨F5.n.only hO (by have := HB.out; simp; omega), F5.o.only hO (by have := HB.out; simp; omega), F5.p.only hO (by have := HB.out; simp; omega), hk, hr⟩
  have HX6 := Lib.hid (HX5.out.past hO (by have := HB.out; simp; omega))
  clear F5 HX5 hk hO h1 hr
  go_wp2_with fail
  refine (retry_kept r q _ 7 w11 F6.r hq).mono ?_
  rintro e w12 ⟨rfl, hO⟩
  have F7 := F6.only hO (by simp) (by simp) (by simp) (by simp) (by simp)
  have HX7 := Lib.hid (HX6.out.trans hO)
  clear F6 HX6 hO hq
  have n0 : w12.cell? ⟨nb, 0, none⟩ = some (.int .i64 1) := F7.n.cell 0 rfl
  have k0 : w12.cell? ⟨kb, 0, none⟩ = some (.int .i64 2) := F7.k.cell 0 rfl
  go_wp2_with fail
  refine (once_done o _ 1 0 7 0 true w12 F7.o).mono ?_
  rintro e w' ⟨rfl, rfl⟩
  go_wp2_with fail
  refine (once_done p _ 1 0 0 73 false w12 F7.p).mono ?_
  rintro e w' ⟨rfl, rfl⟩
  go_wp2_with fail
  go_ret
  exact ⟨rfl, HX7.out⟩

end Go.Proofs.Ytbcdkcepgbegjaa
