/- A pool, alone: at, meets, Read, Mark, CasMark, SwapLink, Faults as calls. Condition: the pool stands in memory as PoolAt says. -/
import Derived.Test.YteeibhjmjejplaaPoolA
namespace Go.Proofs.Yteeibhjmjejplaa
open Go.RowKit

/-- A pool's four blocks. -/
structure PA where
  p : Nat
  sb : Nat
  pb : Nat
  nb : Nat

def PA.all (A : PA) : List Nat := [A.p, A.sb, A.pb, A.nb]

/-- A pool of n slots: the slots S, the pile's tag t, the free places fs, so many faults. -/
structure PoolAt (w : World) (A : PA) (n : Nat) (S : Nat → Sl) (t : Int) (fs : List Nat) (fa : Int) : Prop where
  head : Blk w A.p #[.slice (some ⟨A.sb, 0, none⟩) (n + 1) (n + 1), .pointer (some ⟨A.pb, 0, none⟩), .int .i64 fa] 72
  row : RowI w A.sb ((n + 1) * 7) (flat S) 114
  pile : ∃ nx, PileAt w A.pb A.nb n t fs nx
  apart : A.p ≠ A.sb ∧ A.p ≠ A.pb ∧ A.p ≠ A.nb ∧ A.sb ≠ A.pb ∧ A.sb ≠ A.nb

theorem PoolAt.only {L : List Nat} {w w' : World} {A : PA} {n : Nat} {S : Nat → Sl} {t : Int} {fs : List Nat} {fa : Int} (h : PoolAt w A n S t fs fa) (o : Only L w w') (hn : ∀ k, k ∈ A.all → k ∉ L) : PoolAt w' A n S t fs fa := by
  obtain ⟨nx, hp⟩ := h.pile
  exact ⟨h.head.only o (hn _ (by simp [PA.all])), h.row.only o (hn _ (by simp [PA.all])), ⟨nx, hp.only o (hn _ (by simp [PA.all])) (hn _ (by simp [PA.all]))⟩, h.apart⟩

theorem PoolAt.many {w : World} {A : PA} {n : Nat} {S : Nat → Sl} {t : Int} {fs : List Nat} {fa : Int} (h : PoolAt w A n S t fs fa) : 1 ≤ n ∧ n ≤ 4096 := by
  obtain ⟨nx, hp⟩ := h.pile
  exact hp.many

/-- Where another turn of the slots' block alone has been made. -/
theorem PoolAt.slots {w w' : World} {A : PA} {n : Nat} {S S' : Nat → Sl} {t : Int} {fs : List Nat} {fa : Int} (h : PoolAt w A n S t fs fa) (hr : RowI w' A.sb ((n + 1) * 7) (flat S') 114) (o : Only [A.sb] w w') : PoolAt w' A n S' t fs fa := by
  obtain ⟨nx, hp⟩ := h.pile
  have ha := h.apart
  exact ⟨h.head.only o (by simp [ha.1]), hr, ⟨nx, hp.only o (by simp; exact fun e => ha.2.2.2.1 e.symm) (by simp; exact fun e => ha.2.2.2.2 e.symm)⟩, h.apart⟩

/-- Is it a handle of the pool? -/
def isHandle (n : Nat) (h : Int) : Prop := 1 ≤ idxOf h ∧ idxOf h ≤ n ∧ tagOf h % 2 = 1

set_option maxHeartbeats 800000 in
theorem pool_at_bad (A : PA) (n : Nat) (S : Nat → Sl) (t : Int) (fs : List Nat) (fa h : Int) (w : World) (H : PoolAt w A n S t fs fa) (hb : ¬ isHandle n h) :
    Calls Try.prog 61 #[.pointer (some ⟨A.p, 0, none⟩), .int .i64 h] w fun e w' => e = .returned (.tuple #[.pointer none, .int .i64 0]) ∧ w = w' := by
  have hsl := H.head.cell 0 rfl
  have hm := H.many
  have hir := idxOf_range h
  have htr := tagOf_range h
  have HB := Lib.hid (show ¬ (1 ≤ idxOf h ∧ idxOf h ≤ n ∧ tagOf h % 2 = 1) from hb)
  have hC1 := Lib.hid (fun w => word_idx h w)
  have hC2 := Lib.hid (fun w => word_tg h w)
  clear hb
  generalize idxOf h = x at *
  generalize tagOf h = g at *
  obtain ⟨hx0, hx1⟩ := hir
  obtain ⟨hg0, hg1⟩ := htr
  by_cases h1 : x < 1
  · go_enter Try.func61, Try.ntmps61
    go_wp2_with fail
    refine (hC1.out _).mono ?_
    rintro e w' ⟨rfl, rfl⟩
    go_wp2_with fail
    refine (hC2.out _).mono ?_
    rintro e w' ⟨rfl, rfl⟩
    go_wp2_with fail
    go_ret2
    exact ⟨rfl, rfl⟩
  · by_cases h2 : (n : Int) + 1 ≤ x
    · go_enter Try.func61, Try.ntmps61
      go_wp2_with fail
      refine (hC1.out _).mono ?_
      rintro e w' ⟨rfl, rfl⟩
      go_wp2_with fail
      refine (hC2.out _).mono ?_
      rintro e w' ⟨rfl, rfl⟩
      go_wp2_with fail
      go_ret2
      exact ⟨rfl, rfl⟩
    · have h3 : (g % 2 == 0) = true := by
        have := HB.out
        simp
        omega
      go_enter Try.func61, Try.ntmps61
      go_wp2_with fail
      refine (hC1.out _).mono ?_
      rintro e w' ⟨rfl, rfl⟩
      go_wp2_with fail
      refine (hC2.out _).mono ?_
      rintro e w' ⟨rfl, rfl⟩
      go_wp2_with fail
      go_ret2
      exact ⟨rfl, rfl⟩

set_option maxHeartbeats 800000 in
theorem pool_at (A : PA) (n i : Nat) (S : Nat → Sl) (t : Int) (fs : List Nat) (fa h g : Int) (w : World) (H : PoolAt w A n S t fs fa) (h1 : 1 ≤ i) (h2 : i ≤ n) (hi : idxOf h = i) (hg : tagOf h = g) (ho : g % 2 = 1) :
    Calls Try.prog 61 #[.pointer (some ⟨A.p, 0, none⟩), .int .i64 h] w fun e w' => e = .returned (.tuple #[.pointer (some ⟨A.sb, i * 7, none⟩), .int .i64 g]) ∧ w = w' := by
  have hsl := H.head.cell 0 rfl
  have hm := H.many
  have htr := tagOf_range h
  have hC1 := Lib.hid (fun w => word_idx h w)
  have hC2 := Lib.hid (fun w => word_tg h w)
  rw [hi] at hC1
  rw [hg] at hC2 htr
  have h3 : (g % 2 == 0) = false := by simp; omega
  have hil : (i : Int) < (n : Int) + 1 := by omega
  clear hi hg ho
  obtain ⟨hg0, hg1⟩ := htr
  go_enter Try.func61, Try.ntmps61
  go_wp2_with fail
  refine (hC1.out _).mono ?_
  rintro e w' ⟨rfl, rfl⟩
  go_wp2_with fail
  refine (hC2.out _).mono ?_
  rintro e w' ⟨rfl, rfl⟩
  go_wp2_with fail
  go_ret2
  exact ⟨rfl, rfl⟩

theorem slot_room {n i : Nat} (h : i ≤ n) : i * 7 + 7 ≤ (n + 1) * 7 := by omega

set_option maxHeartbeats 800000 in
theorem pool_meets (A : PA) (n i : Nat) (S : Nat → Sl) (t : Int) (fs : List Nat) (fa h g : Int) (w : World) (H : PoolAt w A n S t fs fa) (h1 : 1 ≤ i) (h2 : i ≤ n) (hi : idxOf h = i) (hg : tagOf h = g) (ho : g % 2 = 1) (hS : (S i).gen = g) :
    Calls Try.prog 42 #[.pointer (some ⟨A.p, 0, none⟩), .pointer none, .int .i64 h] w fun e w' => e = .returned (.tuple #[.pointer (some ⟨A.sb, i * 7, none⟩), .int .i64 0]) ∧ w = w' := by
  have hA := Lib.hid (fun w H => pool_at A n i S t fs fa h g w H h1 h2 hi hg ho)
  have hc := H.row.slot i 0 (by omega) (slot_room h2)
  rw [show (S i).get 0 = g from hS] at hc
  have HH := Lib.hid H
  have H3 := Lib.hid hS
  have H4 := Lib.hid hi
  have H5 := Lib.hid hg
  clear H hi hg ho hS
  go_enter Try.func42, Try.ntmps42
  go_wp2_with fail
  refine (step_nil _).mono ?_
  rintro e w' ⟨rfl, rfl⟩
  go_wp2_with fail
  refine (hA.out _ HH.out).mono ?_
  rintro e w' ⟨rfl, rfl⟩
  go_wp2_with fail
  refine (load_any _ _ _ hc).mono ?_
  rintro e w' ⟨rfl, rfl⟩
  go_wp2_with fail
  go_ret2
  exact ⟨rfl, rfl⟩

set_option maxHeartbeats 800000 in
theorem pool_meets_bad (A : PA) (n : Nat) (S : Nat → Sl) (t : Int) (fs : List Nat) (fa h : Int) (w : World) (H : PoolAt w A n S t fs fa) (hb : ¬ isHandle n h) :
    Calls Try.prog 42 #[.pointer (some ⟨A.p, 0, none⟩), .pointer none, .int .i64 h] w fun e w' => e = .returned (.tuple #[.pointer none, .int .i64 103]) ∧ w = w' := by
  have hA := Lib.hid (fun w H => pool_at_bad A n S t fs fa h w H hb)
  have HH := Lib.hid H
  clear H hb
  go_enter Try.func42, Try.ntmps42
  go_wp2_with fail
  refine (step_nil _).mono ?_
  rintro e w' ⟨rfl, rfl⟩
  go_wp2_with fail
  refine (hA.out _ HH.out).mono ?_
  rintro e w' ⟨rfl, rfl⟩
  go_wp2_with fail
  go_ret2
  exact ⟨rfl, rfl⟩

theorem PoolAt.fault {w w1 : World} {A : PA} {n : Nat} {S : Nat → Sl} {t : Int} {fs : List Nat} {fa : Int} (H : PoolAt w A n S t fs fa) (x : Int) (hw : w.setCell ⟨A.p, 2, none⟩ (.int .i64 x) = w1) : PoolAt w1 A n S t fs x ∧ Only A.all w w1 := by
  subst hw
  have ha := H.apart
  have o : Only [A.p] w (w.setCell ⟨A.p, 2, none⟩ (.int .i64 x)) := Only.setCell _ (by simp) _
  obtain ⟨nx, hp⟩ := H.pile
  refine ⟨⟨?_, H.row.only o (by simp; exact fun e => ha.1 e.symm), ⟨nx, hp.only o (by simp; exact fun e => ha.2.1 e.symm) (by simp; exact fun e => ha.2.2.1 e.symm)⟩, ha⟩, o.mono (by simp [PA.all])⟩
  have := H.head.set_same 2 (.int .i64 x)
  simpa using this

set_option maxHeartbeats 800000 in
theorem pool_meets_gone (A : PA) (n i : Nat) (S : Nat → Sl) (t : Int) (fs : List Nat) (fa h g : Int) (w : World) (H : PoolAt w A n S t fs fa) (h1 : 1 ≤ i) (h2 : i ≤ n) (hi : idxOf h = i) (hg : tagOf h = g) (ho : g % 2 = 1) (hS : (S i).gen ≠ g) (hfa : 0 ≤ fa ∧ fa ≤ 1000000000000) :
    Calls Try.prog 42 #[.pointer (some ⟨A.p, 0, none⟩), .pointer none, .int .i64 h] w fun e w' => e = .returned (.tuple #[.pointer none, .int .i64 104]) ∧ PoolAt w' A n S t fs (fa + 1) ∧ Only A.all w w' := by
  have hA := Lib.hid (fun w H => pool_at A n i S t fs fa h g w H h1 h2 hi hg ho)
  have hc := H.row.slot i 0 (by omega) (slot_room h2)
  have hne : ((S i).gen != g) = true := by simpa using hS
  rw [show (S i).get 0 = (S i).gen from rfl] at hc
  have hp2 := H.head.cell 2 rfl
  have hf2 := H.head.free 2
  have hF := Lib.hid (fun w1 => PoolAt.fault (w1 := w1) H (fa + 1))
  have hs : (Op.intArith .add .i64 fa 1).run Try.prog w = .ok (.int .i64 (fa + 1)) w := by
    have : IntKind.i64.wrap (fa + 1) = fa + 1 := wraps_i64 _ (by omega) (by omega)
    simp [Op.intArith, this]
  have HH := Lib.hid H
  have HS := Lib.hid hs
  have H4 := Lib.hid hi
  have H5 := Lib.hid hg
  clear H hi hg ho hS hs
  generalize (S i).gen = gg at *
  go_enter Try.func42, Try.ntmps42
  go_wp2_with fail
  refine (step_nil _).mono ?_
  rintro e w' ⟨rfl, rfl⟩
  go_wp2_with fail
  refine (hA.out _ HH.out).mono ?_
  rintro e w' ⟨rfl, rfl⟩
  go_wp2_with fail
  refine (load_any _ _ _ hc).mono ?_
  rintro e w' ⟨rfl, rfl⟩
  go_wp2_with fail
  refine (add_any _ fa 1 (fa + 1) _ hp2 hf2 HS.out).mono ?_
  rintro e w1 ⟨rfl, hw⟩
  obtain ⟨hP, hO⟩ := hF.out w1 hw
  clear hw
  go_wp2_with fail
  go_ret2
  exact ⟨rfl, hP, hO⟩

end Go.Proofs.Yteeibhjmjejplaa
