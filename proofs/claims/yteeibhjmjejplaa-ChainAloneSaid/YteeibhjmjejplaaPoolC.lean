/- A pool, alone: Read, Mark, CasMark, SwapLink, Faults as calls. Condition: the pool stands in memory as PoolAt says. -/
import Derived.Test.YteeibhjmjejplaaPoolB
namespace Go.Proofs.Yteeibhjmjejplaa
open Go.RowKit

/-- The handle is a slot's in use. -/
def Meets (A : PA) (n : Nat) (S : Nat → Sl) (t : Int) (fs : List Nat) (fa h : Int) (i : Nat) : Prop :=
  ∀ w, PoolAt w A n S t fs fa → Calls Try.prog 42 #[.pointer (some ⟨A.p, 0, none⟩), .pointer none, .int .i64 h] w fun e w' => e = .returned (.tuple #[.pointer (some ⟨A.sb, i * 7, none⟩), .int .i64 0]) ∧ w = w'

/-- The handle is none's, or a slot's that was given back. -/
def Misses (A : PA) (n : Nat) (S : Nat → Sl) (t : Int) (fs : List Nat) (fa h err fa' : Int) : Prop :=
  ∀ w, PoolAt w A n S t fs fa → Calls Try.prog 42 #[.pointer (some ⟨A.p, 0, none⟩), .pointer none, .int .i64 h] w fun e w' => e = .returned (.tuple #[.pointer none, .int .i64 err]) ∧ PoolAt w' A n S t fs fa' ∧ Only A.all w w'

theorem meets_of {A : PA} {n i : Nat} {S : Nat → Sl} {t : Int} {fs : List Nat} {fa h g : Int} (h1 : 1 ≤ i) (h2 : i ≤ n) (hi : idxOf h = i) (hg : tagOf h = g) (ho : g % 2 = 1) (hS : (S i).gen = g) : Meets A n S t fs fa h i :=
  fun w H => pool_meets A n i S t fs fa h g w H h1 h2 hi hg ho hS

theorem misses_bad {A : PA} {n : Nat} {S : Nat → Sl} {t : Int} {fs : List Nat} {fa h : Int} (hb : ¬ isHandle n h) : Misses A n S t fs fa h 103 fa :=
  fun w H => (pool_meets_bad A n S t fs fa h w H hb).mono fun _ _ x => ⟨x.1, x.2 ▸ H, x.2 ▸ Only.refl _ _⟩

theorem misses_gone {A : PA} {n i : Nat} {S : Nat → Sl} {t : Int} {fs : List Nat} {fa h g : Int} (h1 : 1 ≤ i) (h2 : i ≤ n) (hi : idxOf h = i) (hg : tagOf h = g) (ho : g % 2 = 1) (hS : (S i).gen ≠ g) (hfa : 0 ≤ fa ∧ fa ≤ 1000000000000) : Misses A n S t fs fa h 104 (fa + 1) :=
  fun w H => pool_meets_gone A n i S t fs fa h g w H h1 h2 hi hg ho hS hfa

set_option maxHeartbeats 800000 in
theorem pool_read (A : PA) (n i : Nat) (S : Nat → Sl) (t : Int) (fs : List Nat) (fa h : Int) (w : World) (H : PoolAt w A n S t fs fa) (h2 : i ≤ n) (M : Meets A n S t fs fa h i) :
    Calls Try.prog 18 #[.pointer (some ⟨A.p, 0, none⟩), .pointer none, .int .i64 h] w fun e w' => e = .returned (.tuple #[.agg #[.int .i64 (S i).a, .int .i64 (S i).b, .int .i64 (S i).c, .int .i64 (S i).d], .int .i64 0]) ∧ Only [] w w' := by
  have HM := Lib.hid M
  clear M
  go_enter Try.func18, Try.ntmps18
  go_wp2_with fail
  refine calls_name (fun w1 => PoolAt w1 A n S t fs fa ∧ Blk w1 w.heap.size #[.int .i64 0, .int .i64 0, .int .i64 0, .int .i64 0] 39 ∧ Only [] w w1) ⟨H.only (Only.alloc [] _ _) (by simp), Blk.new _ _ _, Only.alloc _ _ _⟩ ?_
  rintro w1 ⟨hP, hB, hO⟩
  refine (HM.out _ hP).mono ?_
  rintro e w' ⟨rfl, rfl⟩
  go_wp2_with fail
  refine (slot_holds _ _ i S _ hP.row (slot_room h2)).mono ?_
  rintro e w2 ⟨rfl, hX⟩
  have hB2 := hB.only hX (by simp)
  have hO2 := hO.trans hX
  have hr0 := hB2.cell 0 rfl
  have hr1 := hB2.cell 1 rfl
  have hr2 := hB2.cell 2 rfl
  have hr3 := hB2.cell 3 rfl
  have hf0 := hB2.free 0
  have hf1 := hB2.free 1
  have hf2 := hB2.free 2
  have hf3 := hB2.free 3
  clear hP hB hO hX H
  go_wp2_with fail
  refine bodyPost_ret (v := .tuple #[.agg #[.int .i64 (S i).a, .int .i64 (S i).b, .int .i64 (S i).c, .int .i64 (S i).d], .int .i64 0]) (by simp [results, Try.results18, go_sem, hr0, hr1, hr2, hr3]) rfl ⟨rfl, ?_⟩
  exact hO2.past (((((Only.setCell (S := [w.heap.size]) w2 (a := ⟨w.heap.size, 0, none⟩) (by simp) _)).trans (Only.setCell _ (by simp) _)).trans (Only.setCell _ (by simp) _)).trans (Only.setCell _ (by simp) _)) (by simp)

set_option maxHeartbeats 800000 in
theorem pool_read_err (A : PA) (n : Nat) (S : Nat → Sl) (t : Int) (fs : List Nat) (fa h err fa' : Int) (w : World) (H : PoolAt w A n S t fs fa) (M : Misses A n S t fs fa h err fa') (he : (err != 0) = true) :
    Calls Try.prog 18 #[.pointer (some ⟨A.p, 0, none⟩), .pointer none, .int .i64 h] w fun e w' => e = .returned (.tuple #[.agg #[.int .i64 0, .int .i64 0, .int .i64 0, .int .i64 0], .int .i64 err]) ∧ PoolAt w' A n S t fs fa' ∧ Only A.all w w' := by
  have HM := Lib.hid M
  have hpl : ∀ k, k ∈ A.all → k < w.heap.size := by
    intro k hk
    obtain ⟨nx, hp⟩ := H.pile
    have := H.head.lt; have := H.row.lt; have := hp.head.lt; have := hp.row.lt
    simp [PA.all] at hk
    omega
  have hnn : w.heap.size ∉ A.all := fun hk => by have := hpl _ hk; omega
  have HN := Lib.hid hnn
  have HL := Lib.hid hpl
  clear M hpl hnn
  go_enter Try.func18, Try.ntmps18
  go_wp2_with fail
  refine calls_name (fun w1 => PoolAt w1 A n S t fs fa ∧ Blk w1 w.heap.size #[.int .i64 0, .int .i64 0, .int .i64 0, .int .i64 0] 39 ∧ Only [] w w1) ⟨H.only (Only.alloc [] _ _) (by simp), Blk.new _ _ _, Only.alloc _ _ _⟩ ?_
  rintro w1 ⟨hP, hB, hO⟩
  refine (HM.out _ hP).mono ?_
  rintro e w2 ⟨rfl, hP2, hX⟩
  have hB2 := hB.only hX HN.out
  have hO2 := (hO.mono (by simp)).trans hX
  have hr0 := hB2.cell 0 rfl
  have hr1 := hB2.cell 1 rfl
  have hr2 := hB2.cell 2 rfl
  have hr3 := hB2.cell 3 rfl
  have hf0 := hB2.free 0
  have hf1 := hB2.free 1
  have hf2 := hB2.free 2
  have hf3 := hB2.free 3
  clear hP hB hO hX H
  go_wp2_with fail
  have hS := ((((Only.setCell (S := [w.heap.size]) w2 (a := ⟨w.heap.size, 0, none⟩) (by simp) (.int .i64 0))).trans (Only.setCell _ (a := ⟨w.heap.size, 1, none⟩) (by simp) (.int .i64 0))).trans (Only.setCell _ (a := ⟨w.heap.size, 2, none⟩) (by simp) (.int .i64 0))).trans (Only.setCell _ (a := ⟨w.heap.size, 3, none⟩) (by simp) (.int .i64 0))
  refine bodyPost_ret (v := .tuple #[.agg #[.int .i64 0, .int .i64 0, .int .i64 0, .int .i64 0], .int .i64 err]) (by simp [results, Try.results18, go_sem, hr0, hr1, hr2, hr3]) rfl ⟨rfl, ?_, ?_⟩
  · exact hP2.only hS (by intro k hk; simp; have := HL.out k hk; omega)
  · exact hO2.past hS (by simp)

set_option maxHeartbeats 400000 in
theorem pool_mark (A : PA) (n i : Nat) (S : Nat → Sl) (t : Int) (fs : List Nat) (fa h : Int) (w : World) (H : PoolAt w A n S t fs fa) (h2 : i ≤ n) (M : Meets A n S t fs fa h i) :
    Calls Try.prog 28 #[.pointer (some ⟨A.p, 0, none⟩), .pointer none, .int .i64 h] w fun e w' => e = .returned (.tuple #[.int .i64 (S i).mark, .int .i64 0]) ∧ w = w' := by
  have HM := Lib.hid (M w H)
  have hc := H.row.slot i 1 (by omega) (slot_room h2)
  rw [show (S i).get 1 = (S i).mark from rfl] at hc
  clear M H
  go_enter Try.func28, Try.ntmps28
  go_wp2_with fail
  refine HM.out.mono ?_
  rintro e w' ⟨rfl, rfl⟩
  go_wp2_with fail
  refine (load_any _ _ _ hc).mono ?_
  rintro e w' ⟨rfl, rfl⟩
  go_wp2_with fail
  go_ret2
  exact ⟨rfl, rfl⟩

set_option maxHeartbeats 400000 in
theorem pool_mark_err (A : PA) (n : Nat) (S : Nat → Sl) (t : Int) (fs : List Nat) (fa h err fa' : Int) (w : World) (H : PoolAt w A n S t fs fa) (M : Misses A n S t fs fa h err fa') (he : (err != 0) = true) :
    Calls Try.prog 28 #[.pointer (some ⟨A.p, 0, none⟩), .pointer none, .int .i64 h] w fun e w' => e = .returned (.tuple #[.int .i64 0, .int .i64 err]) ∧ PoolAt w' A n S t fs fa' ∧ Only A.all w w' := by
  have HM := Lib.hid (M w H)
  clear M H
  go_enter Try.func28, Try.ntmps28
  go_wp2_with fail
  refine HM.out.mono ?_
  rintro e w2 ⟨rfl, hP, hO⟩
  go_wp2_with fail
  go_ret2
  exact ⟨rfl, hP, hO⟩

theorem PoolAt.marked {w w1 : World} {A : PA} {n i : Nat} {S : Nat → Sl} {t : Int} {fs : List Nat} {fa : Int} (H : PoolAt w A n S t fs fa) (x : Int) (hw : w.setCell ⟨A.sb, i * 7 + 1, none⟩ (.int .i64 x) = w1) : PoolAt w1 A n (upS S i { S i with mark := x }) t fs fa ∧ Only A.all w w1 := by
  have hr := H.row.put i 1 x { S i with mark := x } (by omega) rfl (by intro k hk hn; match k, hk, hn with | 0, _, _ => rfl | 2, _, _ => rfl | 3, _, _ => rfl | 4, _, _ => rfl | 5, _, _ => rfl | 6, _, _ => rfl) hw
  have o : Only [A.sb] w w1 := hw ▸ Only.setCell _ (by simp) _
  exact ⟨H.slots hr o, o.mono (by simp [PA.all])⟩

theorem PoolAt.linkd {w w1 : World} {A : PA} {n i : Nat} {S : Nat → Sl} {t : Int} {fs : List Nat} {fa : Int} (H : PoolAt w A n S t fs fa) (x : Int) (hw : w.setCell ⟨A.sb, i * 7 + 2, none⟩ (.int .i64 x) = w1) : PoolAt w1 A n (upS S i { S i with link := x }) t fs fa ∧ Only A.all w w1 := by
  have hr := H.row.put i 2 x { S i with link := x } (by omega) rfl (by intro k hk hn; match k, hk, hn with | 0, _, _ => rfl | 1, _, _ => rfl | 3, _, _ => rfl | 4, _, _ => rfl | 5, _, _ => rfl | 6, _, _ => rfl) hw
  have o : Only [A.sb] w w1 := hw ▸ Only.setCell _ (by simp) _
  exact ⟨H.slots hr o, o.mono (by simp [PA.all])⟩

set_option maxHeartbeats 400000 in
theorem pool_cas_hit (A : PA) (n i : Nat) (S : Nat → Sl) (t : Int) (fs : List Nat) (fa h x : Int) (w : World) (H : PoolAt w A n S t fs fa) (h2 : i ≤ n) (M : Meets A n S t fs fa h i) :
    Calls Try.prog 31 #[.pointer (some ⟨A.p, 0, none⟩), .pointer none, .int .i64 h, .int .i64 (S i).mark, .int .i64 x] w fun e w' => e = .returned (.tuple #[.bool true, .int .i64 0]) ∧ PoolAt w' A n (upS S i { S i with mark := x }) t fs fa ∧ Only A.all w w' := by
  have HM := Lib.hid (M w H)
  have hc := H.row.slot i 1 (by omega) (slot_room h2)
  rw [show (S i).get 1 = (S i).mark from rfl] at hc
  have hf := H.row.free (i * 7 + 1)
  have hW := Lib.hid (fun w1 => PoolAt.marked (w1 := w1) (i := i) H x)
  clear M H
  go_enter Try.func31, Try.ntmps31
  go_wp2_with fail
  refine HM.out.mono ?_
  rintro e w' ⟨rfl, rfl⟩
  go_wp2_with fail
  refine (cas_hit _ _ _ _ hc hf).mono ?_
  rintro e w1 ⟨rfl, hw⟩
  obtain ⟨hP, hO⟩ := hW.out w1 hw
  clear hw
  go_wp2_with fail
  go_ret2
  exact ⟨rfl, hP, hO⟩

set_option maxHeartbeats 400000 in
theorem pool_cas_miss (A : PA) (n i : Nat) (S : Nat → Sl) (t : Int) (fs : List Nat) (fa h old x : Int) (w : World) (H : PoolAt w A n S t fs fa) (h2 : i ≤ n) (M : Meets A n S t fs fa h i) (hne : ¬ (S i).mark = old) :
    Calls Try.prog 31 #[.pointer (some ⟨A.p, 0, none⟩), .pointer none, .int .i64 h, .int .i64 old, .int .i64 x] w fun e w' => e = .returned (.tuple #[.bool false, .int .i64 0]) ∧ w = w' := by
  have HM := Lib.hid (M w H)
  have hc := H.row.slot i 1 (by omega) (slot_room h2)
  rw [show (S i).get 1 = (S i).mark from rfl] at hc
  have hf := H.row.free (i * 7 + 1)
  have HN := Lib.hid hne
  clear M H hne
  go_enter Try.func31, Try.ntmps31
  go_wp2_with fail
  refine HM.out.mono ?_
  rintro e w' ⟨rfl, rfl⟩
  go_wp2_with fail
  refine (cas_miss _ _ _ _ _ hc hf HN.out).mono ?_
  rintro e w1 ⟨rfl, rfl⟩
  go_wp2_with fail
  go_ret2
  exact ⟨rfl, rfl⟩

set_option maxHeartbeats 400000 in
theorem pool_swaplink (A : PA) (n i : Nat) (S : Nat → Sl) (t : Int) (fs : List Nat) (fa h x : Int) (w : World) (H : PoolAt w A n S t fs fa) (h2 : i ≤ n) (M : Meets A n S t fs fa h i) :
    Calls Try.prog 34 #[.pointer (some ⟨A.p, 0, none⟩), .pointer none, .int .i64 h, .int .i64 x] w fun e w' => e = .returned (.tuple #[.int .i64 (S i).link, .int .i64 0]) ∧ PoolAt w' A n (upS S i { S i with link := x }) t fs fa ∧ Only A.all w w' := by
  have HM := Lib.hid (M w H)
  have hc := H.row.slot i 2 (by omega) (slot_room h2)
  rw [show (S i).get 2 = (S i).link from rfl] at hc
  have hf := H.row.free (i * 7 + 2)
  have hW := Lib.hid (fun w1 => PoolAt.linkd (w1 := w1) (i := i) H x)
  clear M H
  go_enter Try.func34, Try.ntmps34
  go_wp2_with fail
  refine HM.out.mono ?_
  rintro e w' ⟨rfl, rfl⟩
  go_wp2_with fail
  refine (swap_any _ _ _ _ hc hf).mono ?_
  rintro e w1 ⟨rfl, hw⟩
  obtain ⟨hP, hO⟩ := hW.out w1 hw
  clear hw
  go_wp2_with fail
  go_ret2
  exact ⟨rfl, hP, hO⟩

set_option maxHeartbeats 400000 in
theorem pool_faults (A : PA) (n : Nat) (S : Nat → Sl) (t : Int) (fs : List Nat) (fa : Int) (w : World) (H : PoolAt w A n S t fs fa) :
    Calls Try.prog 20 #[.pointer (some ⟨A.p, 0, none⟩)] w fun e w' => e = .returned (.int .i64 fa) ∧ w = w' := by
  have hc := H.head.cell 2 rfl
  go_enter Try.func20, Try.ntmps20
  go_wp2_with fail
  refine (load_any _ fa _ hc).mono ?_
  rintro e w' ⟨rfl, rfl⟩
  go_wp2_with fail
  go_ret
  exact ⟨rfl, rfl⟩

end Go.Proofs.Yteeibhjmjejplaa
