/- A pool, alone: slots laid down and read. Condition: the slots stand in memory as RowI says. · A pool, alone: at, meets, Read, Mark, CasMark, SwapLink, Faults as calls. Condition: the pool stands in memory as PoolAt says. · A pool, alone: Read, Mark, CasMark, SwapLink, Faults as calls. Condition: the pool stands in memory as PoolAt says. -/
import Derived.Test.YtpknnamficegbaaGreatDoorCPile
import Derived.Test.YtpknnamficegbaaGreatDoorCRow
set_option linter.unusedVariables false
set_option linter.unusedSimpArgs false
set_option linter.unusedSectionVars false
set_option linter.unnecessarySimpa false
namespace Go.Proofs.YtpknnamficegbaaGreatDoor
open Go.RowKit

set_option maxHeartbeats 1000000 in
theorem slot_lays (sb N i : Nat) (S : Nat → Sl) (a b c d m l : Int) (w : World) (h : RowI w sb N (flat S) 112) (hN : i * 7 + 7 ≤ N) :
    Calls Tryz.prog 58 #[.pointer (some ⟨sb, i * 7, none⟩), .agg #[.int .i64 a, .int .i64 b, .int .i64 c, .int .i64 d], .int .i64 m, .int .i64 l] w fun e w' => e = .returned (.tuple #[]) ∧ RowI w' sb N (flat (upS S i ⟨(S i).gen, m, l, a, b, c, d⟩)) 112 ∧ Only [sb] w w' := by
  have i0 : ∀ w, (Instr.index 162 (.agg #[.int .i64 a, .int .i64 b, .int .i64 c, .int .i64 d]) (.int .i64 0)).run Tryz.prog w = .ok (.int .i64 a) w := fun _ => by kernel_rfl
  have i1 : ∀ w, (Instr.index 162 (.agg #[.int .i64 a, .int .i64 b, .int .i64 c, .int .i64 d]) (.int .i64 1)).run Tryz.prog w = .ok (.int .i64 b) w := fun _ => by kernel_rfl
  have i2 : ∀ w, (Instr.index 162 (.agg #[.int .i64 a, .int .i64 b, .int .i64 c, .int .i64 d]) (.int .i64 2)).run Tryz.prog w = .ok (.int .i64 c) w := fun _ => by kernel_rfl
  have i3 : ∀ w, (Instr.index 162 (.agg #[.int .i64 a, .int .i64 b, .int .i64 c, .int .i64 d]) (.int .i64 3)).run Tryz.prog w = .ok (.int .i64 d) w := fun _ => by kernel_rfl
  go_enter Tryz.func58, Tryz.ntmps58
  go_wp2_with fail
  refine wp_loop_rounds 5 ?_
  rw [rounds_succ]
  go_wp2_with fail
  refine calls_name (fun w1 => RowI w1 sb N (flat S) 112 ∧ Only [sb] w w1) ⟨h.only (Only.alloc [] _ _) (by simp), Only.alloc _ _ _⟩ ?_
  rintro w0 ⟨h0, o0⟩
  refine (store_any _ _ a _ (h0.slot i 3 (by omega) hN) (h0.free _)).mono ?_
  rintro e w1 ⟨rfl, hw⟩
  have h1 := h0.put i 3 a { S i with a := a } (by omega) rfl (by intro k hk hn; match k, hk, hn with | 0, _, _ => rfl | 1, _, _ => rfl | 2, _, _ => rfl | 4, _, _ => rfl | 5, _, _ => rfl | 6, _, _ => rfl) hw
  have o1 : Only [sb] w w1 := o0.trans (hw ▸ Only.setCell _ (by simp) _)
  clear h0 o0 hw
  go_wp2_with fail
  rw [rounds_succ]
  go_wp2_with fail
  refine (store_any _ _ b _ (h1.slot i 4 (by omega) hN) (h1.free _)).mono ?_
  rintro e w2 ⟨rfl, hw⟩
  have h2 := h1.put i 4 b { S i with a := a, b := b } (by omega) rfl (by intro k hk hn; rw [upS_same]; match k, hk, hn with | 0, _, _ => rfl | 1, _, _ => rfl | 2, _, _ => rfl | 3, _, _ => rfl | 5, _, _ => rfl | 6, _, _ => rfl) hw
  rw [upS_upS] at h2
  have o2 : Only [sb] w w2 := o1.trans (hw ▸ Only.setCell _ (by simp) _)
  clear h1 o1 hw
  go_wp2_with fail
  rw [rounds_succ]
  go_wp2_with fail
  refine (store_any _ _ c _ (h2.slot i 5 (by omega) hN) (h2.free _)).mono ?_
  rintro e w3 ⟨rfl, hw⟩
  have h3 := h2.put i 5 c { S i with a := a, b := b, c := c } (by omega) rfl (by intro k hk hn; rw [upS_same]; match k, hk, hn with | 0, _, _ => rfl | 1, _, _ => rfl | 2, _, _ => rfl | 3, _, _ => rfl | 4, _, _ => rfl | 6, _, _ => rfl) hw
  rw [upS_upS] at h3
  have o3 : Only [sb] w w3 := o2.trans (hw ▸ Only.setCell _ (by simp) _)
  clear h2 o2 hw
  go_wp2_with fail
  rw [rounds_succ]
  go_wp2_with fail
  refine (store_any _ _ d _ (h3.slot i 6 (by omega) hN) (h3.free _)).mono ?_
  rintro e w4 ⟨rfl, hw⟩
  have h4 := h3.put i 6 d { S i with a := a, b := b, c := c, d := d } (by omega) rfl (by intro k hk hn; rw [upS_same]; match k, hk, hn with | 0, _, _ => rfl | 1, _, _ => rfl | 2, _, _ => rfl | 3, _, _ => rfl | 4, _, _ => rfl | 5, _, _ => rfl | j + 6, hk, hn => omega) hw
  rw [upS_upS] at h4
  have o4 : Only [sb] w w4 := o3.trans (hw ▸ Only.setCell _ (by simp) _)
  clear h3 o3 hw
  go_wp2_with fail
  rw [rounds_succ]
  go_wp2_with fail
  refine (store_any _ _ m _ (h4.slot i 1 (by omega) hN) (h4.free _)).mono ?_
  rintro e w5 ⟨rfl, hw⟩
  have h5 := h4.put i 1 m { S i with mark := m, a := a, b := b, c := c, d := d } (by omega) rfl (by intro k hk hn; rw [upS_same]; match k, hk, hn with | 0, _, _ => rfl | 2, _, _ => rfl | 3, _, _ => rfl | 4, _, _ => rfl | 5, _, _ => rfl | 6, _, _ => rfl) hw
  rw [upS_upS] at h5
  have o5 : Only [sb] w w5 := o4.trans (hw ▸ Only.setCell _ (by simp) _)
  clear h4 o4 hw
  go_wp2_with fail
  refine (store_any _ _ l _ (h5.slot i 2 (by omega) hN) (h5.free _)).mono ?_
  rintro e w6 ⟨rfl, hw⟩
  have h6 := h5.put i 2 l ⟨(S i).gen, m, l, a, b, c, d⟩ (by omega) rfl (by intro k hk hn; rw [upS_same]; match k, hk, hn with | 0, _, _ => rfl | 1, _, _ => rfl | 3, _, _ => rfl | 4, _, _ => rfl | 5, _, _ => rfl | 6, _, _ => rfl) hw
  rw [upS_upS] at h6
  have o6 : Only [sb] w w6 := o5.trans (hw ▸ Only.setCell _ (by simp) _)
  clear h5 o5 hw
  go_wp2_with fail
  go_end0
  exact ⟨rfl, h6, o6⟩

set_option maxHeartbeats 400000 in
theorem slot_holds1 (P : Addr) (sb N i k : Nat) (S : Nat → Sl) (w : World) (h : RowI w sb N (flat S) 112) (hN : i * 7 + 7 ≤ N) (hk : k < 4) (hP : w.cell? P = some (.pointer (some ⟨sb, i * 7, none⟩))) :
    Calls Tryz.prog 110 #[.int .i64 k, .pointer (some P)] w fun e w' => e = .returned (.int .i64 ((S i).get (3 + k))) ∧ w = w' := by
  have hc := h.slot i (3 + k) (by omega) hN
  go_enter Tryz.func110, Tryz.ntmps110
  go_wp2_with fail
  refine (load_any _ _ _ (by rw [show i * 7 + 3 + k = i * 7 + (3 + k) by omega]; exact hc)).mono ?_
  rintro e w' ⟨rfl, rfl⟩
  go_wp2_with fail
  go_ret
  exact ⟨rfl, rfl⟩

set_option maxHeartbeats 800000 in
theorem slot_holds (sb N i : Nat) (S : Nat → Sl) (w : World) (h : RowI w sb N (flat S) 112) (hN : i * 7 + 7 ≤ N) :
    Calls Tryz.prog 63 #[.pointer (some ⟨sb, i * 7, none⟩)] w fun e w' => e = .returned (.agg #[.int .i64 (S i).a, .int .i64 (S i).b, .int .i64 (S i).c, .int .i64 (S i).d]) ∧ Only [] w w' := by
  have hmf : ∀ (fn : Fn) (first cap : Array Value) (w : World), (Instr.makeFunc fn first cap).run Tryz.prog w = .ok (.func fn first cap) w := fun _ _ _ _ => rfl
  go_enter Tryz.func63, Tryz.ntmps63
  go_wp2_with fail
  refine calls_name (fun w1 => RowI w1 sb N (flat S) 112 ∧ Blk w1 w.heap.size #[.pointer (some ⟨sb, i * 7, none⟩)] 109 ∧ Blk w1 (w.heap.size + 1) #[.int .i64 0, .int .i64 0, .int .i64 0, .int .i64 0] 43 ∧ Only [] w w1) ⟨h.only ((Only.alloc [] _ _).trans (Only.alloc [] _ _)) (by simp), (Blk.new w _ _).alloc _, ?_, (Only.alloc _ _ _).trans (Only.alloc _ _ _)⟩ ?_
  · have := Blk.new (w.alloc (.cells #[.pointer (some ⟨sb, i * 7, none⟩)] 109)) #[.int .i64 0, .int .i64 0, .int .i64 0, .int .i64 0] 43
    simpa using this
  rintro w1 ⟨h1, hp, hB, hO⟩
  have hp0 : w1.cell? ⟨w.heap.size, 0, none⟩ = some (.pointer (some ⟨sb, i * 7, none⟩)) := hp.cell 0 rfl
  have hr0 := hB.cell 0 rfl
  have hr1 := hB.cell 1 rfl
  have hr2 := hB.cell 2 rfl
  have hr3 := hB.cell 3 rfl
  have hf0 := hB.free 0
  have hf1 := hB.free 1
  have hf2 := hB.free 2
  have hf3 := hB.free 3
  refine (slot_holds1 _ sb N i 0 S _ h1 hN (by omega) hp0).mono ?_
  rintro e w' ⟨rfl, rfl⟩
  go_wp2_with fail
  refine (slot_holds1 _ sb N i 1 S _ h1 hN (by omega) hp0).mono ?_
  rintro e w' ⟨rfl, rfl⟩
  go_wp2_with fail
  refine (slot_holds1 _ sb N i 2 S _ h1 hN (by omega) hp0).mono ?_
  rintro e w' ⟨rfl, rfl⟩
  go_wp2_with fail
  refine (slot_holds1 _ sb N i 3 S _ h1 hN (by omega) hp0).mono ?_
  rintro e w' ⟨rfl, rfl⟩
  go_wp2_with fail
  refine bodyPost_ret (v := .agg #[.int .i64 (S i).a, .int .i64 (S i).b, .int .i64 (S i).c, .int .i64 (S i).d]) (by simp [results, Tryz.results63, go_sem, hr0, hr1, hr2, hr3, Sl.get]) rfl ⟨rfl, ?_⟩
  exact hO.past (((((Only.setCell (S := [w.heap.size + 1]) w1 (a := ⟨w.heap.size + 1, 0, none⟩) (by simp) _)).trans (Only.setCell _ (by simp) _)).trans (Only.setCell _ (by simp) _)).trans (Only.setCell _ (by simp) _)) (by simp)

end Go.Proofs.YtpknnamficegbaaGreatDoor

namespace Go.Proofs.YtpknnamficegbaaGreatDoor
open Go.RowKit

/-- A pool's four blocks. -/
structure PA where
  p : Nat
  sb : Nat
  pb : Nat
  nb : Nat

def PA.all (A : PA) : List Nat := [A.p, A.sb, A.pb, A.nb]

/-- A pool of n slots: the slots S, the pile's tag t, the free places fs, so many faults. -/
structure PoolAt (w : World) (A : PA) (n : Nat) (S : Nat → Sl) (t : Int) (fs : List Nat) (fa : Int) : Prop where
  head : Blk w A.p #[.slice (some ⟨A.sb, 0, none⟩) (n + 1) (n + 1), .pointer (some ⟨A.pb, 0, none⟩), .int .i64 fa] 104
  row : RowI w A.sb ((n + 1) * 7) (flat S) 112
  pile : ∃ nx, PileAt w A.pb A.nb n t fs nx
  apart : A.p ≠ A.sb ∧ A.p ≠ A.pb ∧ A.p ≠ A.nb ∧ A.sb ≠ A.pb ∧ A.sb ≠ A.nb

theorem PoolAt.only {L : List Nat} {w w' : World} {A : PA} {n : Nat} {S : Nat → Sl} {t : Int} {fs : List Nat} {fa : Int} (h : PoolAt w A n S t fs fa) (o : Only L w w') (hn : ∀ k, k ∈ A.all → k ∉ L) : PoolAt w' A n S t fs fa := by
  obtain ⟨nx, hp⟩ := h.pile
  exact ⟨h.head.only o (hn _ (by simp [PA.all])), h.row.only o (hn _ (by simp [PA.all])), ⟨nx, hp.only o (hn _ (by simp [PA.all])) (hn _ (by simp [PA.all]))⟩, h.apart⟩

theorem PoolAt.many {w : World} {A : PA} {n : Nat} {S : Nat → Sl} {t : Int} {fs : List Nat} {fa : Int} (h : PoolAt w A n S t fs fa) : 1 ≤ n ∧ n ≤ 4096 := by
  obtain ⟨nx, hp⟩ := h.pile
  exact hp.many

/-- Where another turn of the slots' block alone has been made. -/
theorem PoolAt.slots {w w' : World} {A : PA} {n : Nat} {S S' : Nat → Sl} {t : Int} {fs : List Nat} {fa : Int} (h : PoolAt w A n S t fs fa) (hr : RowI w' A.sb ((n + 1) * 7) (flat S') 112) (o : Only [A.sb] w w') : PoolAt w' A n S' t fs fa := by
  obtain ⟨nx, hp⟩ := h.pile
  have ha := h.apart
  exact ⟨h.head.only o (by simp [ha.1]), hr, ⟨nx, hp.only o (by simp; exact fun e => ha.2.2.2.1 e.symm) (by simp; exact fun e => ha.2.2.2.2 e.symm)⟩, h.apart⟩

/-- Is it a handle of the pool? -/
def isHandle (n : Nat) (h : Int) : Prop := 1 ≤ idxOf h ∧ idxOf h ≤ n ∧ tagOf h % 2 = 1

set_option maxHeartbeats 800000 in
theorem pool_at_bad (A : PA) (n : Nat) (S : Nat → Sl) (t : Int) (fs : List Nat) (fa h : Int) (w : World) (H : PoolAt w A n S t fs fa) (hb : ¬ isHandle n h) :
    Calls Tryz.prog 61 #[.pointer (some ⟨A.p, 0, none⟩), .int .i64 h] w fun e w' => e = .returned (.tuple #[.pointer none, .int .i64 0]) ∧ w = w' := by
  have hsl := H.head.cell 0 rfl
  have hm := H.many
  have hir := idxOf_range h
  have htr := tagOf_range h
  have HB := Lib.hid (show ¬ (1 ≤ idxOf h ∧ idxOf h ≤ n ∧ tagOf h % 2 = 1) from hb)
  have hC1 := Lib.hid (fun w => word_idx h w)
  have hC2 := Lib.hid (fun w => word_tg h w)
  clear hb
  generalize idxOf h = x at *
  generalize tagOf h = g at *
  obtain ⟨hx0, hx1⟩ := hir
  obtain ⟨hg0, hg1⟩ := htr
  by_cases h1 : x < 1
  · go_enter Tryz.func61, Tryz.ntmps61
    go_wp2_with fail
    refine (hC1.out _).mono ?_
    rintro e w' ⟨rfl, rfl⟩
    go_wp2_with fail
    refine (hC2.out _).mono ?_
    rintro e w' ⟨rfl, rfl⟩
    go_wp2_with fail
    go_ret2
    exact ⟨rfl, rfl⟩
  · by_cases h2 : (n : Int) + 1 ≤ x
    · go_enter Tryz.func61, Tryz.ntmps61
      go_wp2_with fail
      refine (hC1.out _).mono ?_
      rintro e w' ⟨rfl, rfl⟩
      go_wp2_with fail
      refine (hC2.out _).mono ?_
      rintro e w' ⟨rfl, rfl⟩
      go_wp2_with fail
      go_ret2
      exact ⟨rfl, rfl⟩
    · have h3 : (g % 2 == 0) = true := by
        have := HB.out
        simp
        omega
      go_enter Tryz.func61, Tryz.ntmps61
      go_wp2_with fail
      refine (hC1.out _).mono ?_
      rintro e w' ⟨rfl, rfl⟩
      go_wp2_with fail
      refine (hC2.out _).mono ?_
      rintro e w' ⟨rfl, rfl⟩
      go_wp2_with fail
      go_ret2
      exact ⟨rfl, rfl⟩

set_option maxHeartbeats 800000 in
theorem pool_at (A : PA) (n i : Nat) (S : Nat → Sl) (t : Int) (fs : List Nat) (fa h g : Int) (w : World) (H : PoolAt w A n S t fs fa) (h1 : 1 ≤ i) (h2 : i ≤ n) (hi : idxOf h = i) (hg : tagOf h = g) (ho : g % 2 = 1) :
    Calls Tryz.prog 61 #[.pointer (some ⟨A.p, 0, none⟩), .int .i64 h] w fun e w' => e = .returned (.tuple #[.pointer (some ⟨A.sb, i * 7, none⟩), .int .i64 g]) ∧ w = w' := by
  have hsl := H.head.cell 0 rfl
  have hm := H.many
  have htr := tagOf_range h
  have hC1 := Lib.hid (fun w => word_idx h w)
  have hC2 := Lib.hid (fun w => word_tg h w)
  rw [hi] at hC1
  rw [hg] at hC2 htr
  have h3 : (g % 2 == 0) = false := by simp; omega
  have hil : (i : Int) < (n : Int) + 1 := by omega
  clear hi hg ho
  obtain ⟨hg0, hg1⟩ := htr
  go_enter Tryz.func61, Tryz.ntmps61
  go_wp2_with fail
  refine (hC1.out _).mono ?_
  rintro e w' ⟨rfl, rfl⟩
  go_wp2_with fail
  refine (hC2.out _).mono ?_
  rintro e w' ⟨rfl, rfl⟩
  go_wp2_with fail
  go_ret2
  exact ⟨rfl, rfl⟩

theorem slot_room {n i : Nat} (h : i ≤ n) : i * 7 + 7 ≤ (n + 1) * 7 := by omega

set_option maxHeartbeats 800000 in
theorem pool_meets (A : PA) (n i : Nat) (S : Nat → Sl) (t : Int) (fs : List Nat) (fa h g : Int) (w : World) (H : PoolAt w A n S t fs fa) (h1 : 1 ≤ i) (h2 : i ≤ n) (hi : idxOf h = i) (hg : tagOf h = g) (ho : g % 2 = 1) (hS : (S i).gen = g) :
    Calls Tryz.prog 68 #[.pointer (some ⟨A.p, 0, none⟩), .pointer none, .int .i64 h] w fun e w' => e = .returned (.tuple #[.pointer (some ⟨A.sb, i * 7, none⟩), .int .i64 0]) ∧ w = w' := by
  have hA := Lib.hid (fun w H => pool_at A n i S t fs fa h g w H h1 h2 hi hg ho)
  have hc := H.row.slot i 0 (by omega) (slot_room h2)
  rw [show (S i).get 0 = g from hS] at hc
  have HH := Lib.hid H
  have H3 := Lib.hid hS
  have H4 := Lib.hid hi
  have H5 := Lib.hid hg
  clear H hi hg ho hS
  go_enter Tryz.func68, Tryz.ntmps68
  go_wp2_with fail
  refine (step_nil _).mono ?_
  rintro e w' ⟨rfl, rfl⟩
  go_wp2_with fail
  refine (hA.out _ HH.out).mono ?_
  rintro e w' ⟨rfl, rfl⟩
  go_wp2_with fail
  refine (load_any _ _ _ hc).mono ?_
  rintro e w' ⟨rfl, rfl⟩
  go_wp2_with fail
  go_ret2
  exact ⟨rfl, rfl⟩

set_option maxHeartbeats 800000 in
theorem pool_meets_bad (A : PA) (n : Nat) (S : Nat → Sl) (t : Int) (fs : List Nat) (fa h : Int) (w : World) (H : PoolAt w A n S t fs fa) (hb : ¬ isHandle n h) :
    Calls Tryz.prog 68 #[.pointer (some ⟨A.p, 0, none⟩), .pointer none, .int .i64 h] w fun e w' => e = .returned (.tuple #[.pointer none, .int .i64 103]) ∧ w = w' := by
  have hA := Lib.hid (fun w H => pool_at_bad A n S t fs fa h w H hb)
  have HH := Lib.hid H
  clear H hb
  go_enter Tryz.func68, Tryz.ntmps68
  go_wp2_with fail
  refine (step_nil _).mono ?_
  rintro e w' ⟨rfl, rfl⟩
  go_wp2_with fail
  refine (hA.out _ HH.out).mono ?_
  rintro e w' ⟨rfl, rfl⟩
  go_wp2_with fail
  go_ret2
  exact ⟨rfl, rfl⟩

theorem PoolAt.fault {w w1 : World} {A : PA} {n : Nat} {S : Nat → Sl} {t : Int} {fs : List Nat} {fa : Int} (H : PoolAt w A n S t fs fa) (x : Int) (hw : w.setCell ⟨A.p, 2, none⟩ (.int .i64 x) = w1) : PoolAt w1 A n S t fs x ∧ Only A.all w w1 := by
  subst hw
  have ha := H.apart
  have o : Only [A.p] w (w.setCell ⟨A.p, 2, none⟩ (.int .i64 x)) := Only.setCell _ (by simp) _
  obtain ⟨nx, hp⟩ := H.pile
  refine ⟨⟨?_, H.row.only o (by simp; exact fun e => ha.1 e.symm), ⟨nx, hp.only o (by simp; exact fun e => ha.2.1 e.symm) (by simp; exact fun e => ha.2.2.1 e.symm)⟩, ha⟩, o.mono (by simp [PA.all])⟩
  have := H.head.set_same 2 (.int .i64 x)
  simpa using this

set_option maxHeartbeats 800000 in
theorem pool_meets_gone (A : PA) (n i : Nat) (S : Nat → Sl) (t : Int) (fs : List Nat) (fa h g : Int) (w : World) (H : PoolAt w A n S t fs fa) (h1 : 1 ≤ i) (h2 : i ≤ n) (hi : idxOf h = i) (hg : tagOf h = g) (ho : g % 2 = 1) (hS : (S i).gen ≠ g) (hfa : 0 ≤ fa ∧ fa ≤ 1000000000000) :
    Calls Tryz.prog 68 #[.pointer (some ⟨A.p, 0, none⟩), .pointer none, .int .i64 h] w fun e w' => e = .returned (.tuple #[.pointer none, .int .i64 104]) ∧ PoolAt w' A n S t fs (fa + 1) ∧ Only A.all w w' := by
  have hA := Lib.hid (fun w H => pool_at A n i S t fs fa h g w H h1 h2 hi hg ho)
  have hc := H.row.slot i 0 (by omega) (slot_room h2)
  have hne : ((S i).gen != g) = true := by simpa using hS
  rw [show (S i).get 0 = (S i).gen from rfl] at hc
  have hp2 := H.head.cell 2 rfl
  have hf2 := H.head.free 2
  have hF := Lib.hid (fun w1 => PoolAt.fault (w1 := w1) H (fa + 1))
  have hs : (Op.intArith .add .i64 fa 1).run Tryz.prog w = .ok (.int .i64 (fa + 1)) w := by
    have : IntKind.i64.wrap (fa + 1) = fa + 1 := wraps_i64 _ (by omega) (by omega)
    simp [Op.intArith, this]
  have HH := Lib.hid H
  have HS := Lib.hid hs
  have H4 := Lib.hid hi
  have H5 := Lib.hid hg
  clear H hi hg ho hS hs
  generalize (S i).gen = gg at *
  go_enter Tryz.func68, Tryz.ntmps68
  go_wp2_with fail
  refine (step_nil _).mono ?_
  rintro e w' ⟨rfl, rfl⟩
  go_wp2_with fail
  refine (hA.out _ HH.out).mono ?_
  rintro e w' ⟨rfl, rfl⟩
  go_wp2_with fail
  refine (load_any _ _ _ hc).mono ?_
  rintro e w' ⟨rfl, rfl⟩
  go_wp2_with fail
  refine (add_any _ fa 1 (fa + 1) _ hp2 hf2 HS.out).mono ?_
  rintro e w1 ⟨rfl, hw⟩
  obtain ⟨hP, hO⟩ := hF.out w1 hw
  clear hw
  go_wp2_with fail
  go_ret2
  exact ⟨rfl, hP, hO⟩

end Go.Proofs.YtpknnamficegbaaGreatDoor

namespace Go.Proofs.YtpknnamficegbaaGreatDoor
open Go.RowKit

/-- The handle is a slot's in use. -/
def Meets (A : PA) (n : Nat) (S : Nat → Sl) (t : Int) (fs : List Nat) (fa h : Int) (i : Nat) : Prop :=
  ∀ w, PoolAt w A n S t fs fa → Calls Tryz.prog 68 #[.pointer (some ⟨A.p, 0, none⟩), .pointer none, .int .i64 h] w fun e w' => e = .returned (.tuple #[.pointer (some ⟨A.sb, i * 7, none⟩), .int .i64 0]) ∧ w = w'

/-- The handle is none's, or a slot's that was given back. -/
def Misses (A : PA) (n : Nat) (S : Nat → Sl) (t : Int) (fs : List Nat) (fa h err fa' : Int) : Prop :=
  ∀ w, PoolAt w A n S t fs fa → Calls Tryz.prog 68 #[.pointer (some ⟨A.p, 0, none⟩), .pointer none, .int .i64 h] w fun e w' => e = .returned (.tuple #[.pointer none, .int .i64 err]) ∧ PoolAt w' A n S t fs fa' ∧ Only A.all w w'

theorem meets_of {A : PA} {n i : Nat} {S : Nat → Sl} {t : Int} {fs : List Nat} {fa h g : Int} (h1 : 1 ≤ i) (h2 : i ≤ n) (hi : idxOf h = i) (hg : tagOf h = g) (ho : g % 2 = 1) (hS : (S i).gen = g) : Meets A n S t fs fa h i :=
  fun w H => pool_meets A n i S t fs fa h g w H h1 h2 hi hg ho hS

theorem misses_bad {A : PA} {n : Nat} {S : Nat → Sl} {t : Int} {fs : List Nat} {fa h : Int} (hb : ¬ isHandle n h) : Misses A n S t fs fa h 103 fa :=
  fun w H => (pool_meets_bad A n S t fs fa h w H hb).mono fun _ _ x => ⟨x.1, x.2 ▸ H, x.2 ▸ Only.refl _ _⟩

theorem misses_gone {A : PA} {n i : Nat} {S : Nat → Sl} {t : Int} {fs : List Nat} {fa h g : Int} (h1 : 1 ≤ i) (h2 : i ≤ n) (hi : idxOf h = i) (hg : tagOf h = g) (ho : g % 2 = 1) (hS : (S i).gen ≠ g) (hfa : 0 ≤ fa ∧ fa ≤ 1000000000000) : Misses A n S t fs fa h 104 (fa + 1) :=
  fun w H => pool_meets_gone A n i S t fs fa h g w H h1 h2 hi hg ho hS hfa

set_option maxHeartbeats 800000 in
theorem pool_read (A : PA) (n i : Nat) (S : Nat → Sl) (t : Int) (fs : List Nat) (fa h : Int) (w : World) (H : PoolAt w A n S t fs fa) (h2 : i ≤ n) (M : Meets A n S t fs fa h i) :
    Calls Tryz.prog 15 #[.pointer (some ⟨A.p, 0, none⟩), .pointer none, .int .i64 h] w fun e w' => e = .returned (.tuple #[.agg #[.int .i64 (S i).a, .int .i64 (S i).b, .int .i64 (S i).c, .int .i64 (S i).d], .int .i64 0]) ∧ Only [] w w' := by
  have HM := Lib.hid M
  clear M
  go_enter Tryz.func15, Tryz.ntmps15
  go_wp2_with fail
  refine calls_name (fun w1 => PoolAt w1 A n S t fs fa ∧ Blk w1 w.heap.size #[.int .i64 0, .int .i64 0, .int .i64 0, .int .i64 0] 43 ∧ Only [] w w1) ⟨H.only (Only.alloc [] _ _) (by simp), Blk.new _ _ _, Only.alloc _ _ _⟩ ?_
  rintro w1 ⟨hP, hB, hO⟩
  refine (HM.out _ hP).mono ?_
  rintro e w' ⟨rfl, rfl⟩
  go_wp2_with fail
  refine (slot_holds _ _ i S _ hP.row (slot_room h2)).mono ?_
  rintro e w2 ⟨rfl, hX⟩
  have hB2 := hB.only hX (by simp)
  have hO2 := hO.trans hX
  have hr0 := hB2.cell 0 rfl
  have hr1 := hB2.cell 1 rfl
  have hr2 := hB2.cell 2 rfl
  have hr3 := hB2.cell 3 rfl
  have hf0 := hB2.free 0
  have hf1 := hB2.free 1
  have hf2 := hB2.free 2
  have hf3 := hB2.free 3
  clear hP hB hO hX H
  go_wp2_with fail
  refine bodyPost_ret (v := .tuple #[.agg #[.int .i64 (S i).a, .int .i64 (S i).b, .int .i64 (S i).c, .int .i64 (S i).d], .int .i64 0]) (by simp [results, Tryz.results15, go_sem, hr0, hr1, hr2, hr3]) rfl ⟨rfl, ?_⟩
  exact hO2.past (((((Only.setCell (S := [w.heap.size]) w2 (a := ⟨w.heap.size, 0, none⟩) (by simp) _)).trans (Only.setCell _ (by simp) _)).trans (Only.setCell _ (by simp) _)).trans (Only.setCell _ (by simp) _)) (by simp)

set_option maxHeartbeats 800000 in
theorem pool_read_err (A : PA) (n : Nat) (S : Nat → Sl) (t : Int) (fs : List Nat) (fa h err fa' : Int) (w : World) (H : PoolAt w A n S t fs fa) (M : Misses A n S t fs fa h err fa') (he : (err != 0) = true) :
    Calls Tryz.prog 15 #[.pointer (some ⟨A.p, 0, none⟩), .pointer none, .int .i64 h] w fun e w' => e = .returned (.tuple #[.agg #[.int .i64 0, .int .i64 0, .int .i64 0, .int .i64 0], .int .i64 err]) ∧ PoolAt w' A n S t fs fa' ∧ Only A.all w w' := by
  have HM := Lib.hid M
  have hpl : ∀ k, k ∈ A.all → k < w.heap.size := by
    intro k hk
    obtain ⟨nx, hp⟩ := H.pile
    have := H.head.lt; have := H.row.lt; have := hp.head.lt; have := hp.row.lt
    simp [PA.all] at hk
    omega
  have hnn : w.heap.size ∉ A.all := fun hk => by have := hpl _ hk; omega
  have HN := Lib.hid hnn
  have HL := Lib.hid hpl
  clear M hpl hnn
  go_enter Tryz.func15, Tryz.ntmps15
  go_wp2_with fail
  refine calls_name (fun w1 => PoolAt w1 A n S t fs fa ∧ Blk w1 w.heap.size #[.int .i64 0, .int .i64 0, .int .i64 0, .int .i64 0] 43 ∧ Only [] w w1) ⟨H.only (Only.alloc [] _ _) (by simp), Blk.new _ _ _, Only.alloc _ _ _⟩ ?_
  rintro w1 ⟨hP, hB, hO⟩
  refine (HM.out _ hP).mono ?_
  rintro e w2 ⟨rfl, hP2, hX⟩
  have hB2 := hB.only hX HN.out
  have hO2 := (hO.mono (by simp)).trans hX
  have hr0 := hB2.cell 0 rfl
  have hr1 := hB2.cell 1 rfl
  have hr2 := hB2.cell 2 rfl
  have hr3 := hB2.cell 3 rfl
  have hf0 := hB2.free 0
  have hf1 := hB2.free 1
  have hf2 := hB2.free 2
  have hf3 := hB2.free 3
  clear hP hB hO hX H
  go_wp2_with fail
  have hS := ((((Only.setCell (S := [w.heap.size]) w2 (a := ⟨w.heap.size, 0, none⟩) (by simp) (.int .i64 0))).trans (Only.setCell _ (a := ⟨w.heap.size, 1, none⟩) (by simp) (.int .i64 0))).trans (Only.setCell _ (a := ⟨w.heap.size, 2, none⟩) (by simp) (.int .i64 0))).trans (Only.setCell _ (a := ⟨w.heap.size, 3, none⟩) (by simp) (.int .i64 0))
  refine bodyPost_ret (v := .tuple #[.agg #[.int .i64 0, .int .i64 0, .int .i64 0, .int .i64 0], .int .i64 err]) (by simp [results, Tryz.results15, go_sem, hr0, hr1, hr2, hr3]) rfl ⟨rfl, ?_, ?_⟩
  · exact hP2.only hS (by intro k hk; simp; have := HL.out k hk; omega)
  · exact hO2.past hS (by simp)

set_option maxHeartbeats 400000 in
theorem pool_mark (A : PA) (n i : Nat) (S : Nat → Sl) (t : Int) (fs : List Nat) (fa h : Int) (w : World) (H : PoolAt w A n S t fs fa) (h2 : i ≤ n) (M : Meets A n S t fs fa h i) :
    Calls Tryz.prog 23 #[.pointer (some ⟨A.p, 0, none⟩), .pointer none, .int .i64 h] w fun e w' => e = .returned (.tuple #[.int .i64 (S i).mark, .int .i64 0]) ∧ w = w' := by
  have HM := Lib.hid (M w H)
  have hc := H.row.slot i 1 (by omega) (slot_room h2)
  rw [show (S i).get 1 = (S i).mark from rfl] at hc
  clear M H
  go_enter Tryz.func23, Tryz.ntmps23
  go_wp2_with fail
  refine HM.out.mono ?_
  rintro e w' ⟨rfl, rfl⟩
  go_wp2_with fail
  refine (load_any _ _ _ hc).mono ?_
  rintro e w' ⟨rfl, rfl⟩
  go_wp2_with fail
  go_ret2
  exact ⟨rfl, rfl⟩

set_option maxHeartbeats 400000 in
theorem pool_mark_err (A : PA) (n : Nat) (S : Nat → Sl) (t : Int) (fs : List Nat) (fa h err fa' : Int) (w : World) (H : PoolAt w A n S t fs fa) (M : Misses A n S t fs fa h err fa') (he : (err != 0) = true) :
    Calls Tryz.prog 23 #[.pointer (some ⟨A.p, 0, none⟩), .pointer none, .int .i64 h] w fun e w' => e = .returned (.tuple #[.int .i64 0, .int .i64 err]) ∧ PoolAt w' A n S t fs fa' ∧ Only A.all w w' := by
  have HM := Lib.hid (M w H)
  clear M H
  go_enter Tryz.func23, Tryz.ntmps23
  go_wp2_with fail
  refine HM.out.mono ?_
  rintro e w2 ⟨rfl, hP, hO⟩
  go_wp2_with fail
  go_ret2
  exact ⟨rfl, hP, hO⟩

theorem PoolAt.marked {w w1 : World} {A : PA} {n i : Nat} {S : Nat → Sl} {t : Int} {fs : List Nat} {fa : Int} (H : PoolAt w A n S t fs fa) (x : Int) (hw : w.setCell ⟨A.sb, i * 7 + 1, none⟩ (.int .i64 x) = w1) : PoolAt w1 A n (upS S i { S i with mark := x }) t fs fa ∧ Only A.all w w1 := by
  have hr := H.row.put i 1 x { S i with mark := x } (by omega) rfl (by intro k hk hn; match k, hk, hn with | 0, _, _ => rfl | 2, _, _ => rfl | 3, _, _ => rfl | 4, _, _ => rfl | 5, _, _ => rfl | 6, _, _ => rfl) hw
  have o : Only [A.sb] w w1 := hw ▸ Only.setCell _ (by simp) _
  exact ⟨H.slots hr o, o.mono (by simp [PA.all])⟩

theorem PoolAt.linkd {w w1 : World} {A : PA} {n i : Nat} {S : Nat → Sl} {t : Int} {fs : List Nat} {fa : Int} (H : PoolAt w A n S t fs fa) (x : Int) (hw : w.setCell ⟨A.sb, i * 7 + 2, none⟩ (.int .i64 x) = w1) : PoolAt w1 A n (upS S i { S i with link := x }) t fs fa ∧ Only A.all w w1 := by
  have hr := H.row.put i 2 x { S i with link := x } (by omega) rfl (by intro k hk hn; match k, hk, hn with | 0, _, _ => rfl | 1, _, _ => rfl | 3, _, _ => rfl | 4, _, _ => rfl | 5, _, _ => rfl | 6, _, _ => rfl) hw
  have o : Only [A.sb] w w1 := hw ▸ Only.setCell _ (by simp) _
  exact ⟨H.slots hr o, o.mono (by simp [PA.all])⟩

set_option maxHeartbeats 400000 in
theorem pool_cas_hit (A : PA) (n i : Nat) (S : Nat → Sl) (t : Int) (fs : List Nat) (fa h x : Int) (w : World) (H : PoolAt w A n S t fs fa) (h2 : i ≤ n) (M : Meets A n S t fs fa h i) :
    Calls Tryz.prog 25 #[.pointer (some ⟨A.p, 0, none⟩), .pointer none, .int .i64 h, .int .i64 (S i).mark, .int .i64 x] w fun e w' => e = .returned (.tuple #[.bool true, .int .i64 0]) ∧ PoolAt w' A n (upS S i { S i with mark := x }) t fs fa ∧ Only A.all w w' := by
  have HM := Lib.hid (M w H)
  have hc := H.row.slot i 1 (by omega) (slot_room h2)
  rw [show (S i).get 1 = (S i).mark from rfl] at hc
  have hf := H.row.free (i * 7 + 1)
  have hW := Lib.hid (fun w1 => PoolAt.marked (w1 := w1) (i := i) H x)
  clear M H
  go_enter Tryz.func25, Tryz.ntmps25
  go_wp2_with fail
  refine HM.out.mono ?_
  rintro e w' ⟨rfl, rfl⟩
  go_wp2_with fail
  refine (cas_hit _ _ _ _ hc hf).mono ?_
  rintro e w1 ⟨rfl, hw⟩
  obtain ⟨hP, hO⟩ := hW.out w1 hw
  clear hw
  go_wp2_with fail
  go_ret2
  exact ⟨rfl, hP, hO⟩

set_option maxHeartbeats 400000 in
theorem pool_cas_miss (A : PA) (n i : Nat) (S : Nat → Sl) (t : Int) (fs : List Nat) (fa h old x : Int) (w : World) (H : PoolAt w A n S t fs fa) (h2 : i ≤ n) (M : Meets A n S t fs fa h i) (hne : ¬ (S i).mark = old) :
    Calls Tryz.prog 25 #[.pointer (some ⟨A.p, 0, none⟩), .pointer none, .int .i64 h, .int .i64 old, .int .i64 x] w fun e w' => e = .returned (.tuple #[.bool false, .int .i64 0]) ∧ w = w' := by
  have HM := Lib.hid (M w H)
  have hc := H.row.slot i 1 (by omega) (slot_room h2)
  rw [show (S i).get 1 = (S i).mark from rfl] at hc
  have hf := H.row.free (i * 7 + 1)
  have HN := Lib.hid hne
  clear M H hne
  go_enter Tryz.func25, Tryz.ntmps25
  go_wp2_with fail
  refine HM.out.mono ?_
  rintro e w' ⟨rfl, rfl⟩
  go_wp2_with fail
  refine (cas_miss _ _ _ _ _ hc hf HN.out).mono ?_
  rintro e w1 ⟨rfl, rfl⟩
  go_wp2_with fail
  go_ret2
  exact ⟨rfl, rfl⟩

set_option maxHeartbeats 400000 in
theorem pool_swaplink (A : PA) (n i : Nat) (S : Nat → Sl) (t : Int) (fs : List Nat) (fa h x : Int) (w : World) (H : PoolAt w A n S t fs fa) (h2 : i ≤ n) (M : Meets A n S t fs fa h i) :
    Calls Tryz.prog 29 #[.pointer (some ⟨A.p, 0, none⟩), .pointer none, .int .i64 h, .int .i64 x] w fun e w' => e = .returned (.tuple #[.int .i64 (S i).link, .int .i64 0]) ∧ PoolAt w' A n (upS S i { S i with link := x }) t fs fa ∧ Only A.all w w' := by
  have HM := Lib.hid (M w H)
  have hc := H.row.slot i 2 (by omega) (slot_room h2)
  rw [show (S i).get 2 = (S i).link from rfl] at hc
  have hf := H.row.free (i * 7 + 2)
  have hW := Lib.hid (fun w1 => PoolAt.linkd (w1 := w1) (i := i) H x)
  clear M H
  go_enter Tryz.func29, Tryz.ntmps29
  go_wp2_with fail
  refine HM.out.mono ?_
  rintro e w' ⟨rfl, rfl⟩
  go_wp2_with fail
  refine (swap_any _ _ _ _ hc hf).mono ?_
  rintro e w1 ⟨rfl, hw⟩
  obtain ⟨hP, hO⟩ := hW.out w1 hw
  clear hw
  go_wp2_with fail
  go_ret2
  exact ⟨rfl, hP, hO⟩

set_option maxHeartbeats 400000 in
theorem pool_faults (A : PA) (n : Nat) (S : Nat → Sl) (t : Int) (fs : List Nat) (fa : Int) (w : World) (H : PoolAt w A n S t fs fa) :
    Calls Tryz.prog 16 #[.pointer (some ⟨A.p, 0, none⟩)] w fun e w' => e = .returned (.int .i64 fa) ∧ w = w' := by
  have hc := H.head.cell 2 rfl
  go_enter Tryz.func16, Tryz.ntmps16
  go_wp2_with fail
  refine (load_any _ fa _ hc).mono ?_
  rintro e w' ⟨rfl, rfl⟩
  go_wp2_with fail
  go_ret
  exact ⟨rfl, rfl⟩

end Go.Proofs.YtpknnamficegbaaGreatDoor

