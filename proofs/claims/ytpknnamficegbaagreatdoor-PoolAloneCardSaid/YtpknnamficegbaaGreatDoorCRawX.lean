/- A pile of places, alone, whatever is linked in it: PopWith, Push as calls. Conditions: the pile stands in memory as PileR says; its tag is below 1000000000000. · A pool, alone, its pile linked anyhow: at, meets, Read, Mark, CasMark, SwapLink, Faults as calls. Condition: the pool stands in memory as PoolR says. · A pool, alone, its pile linked anyhow: Give and what Take does in the pile. Condition: the pool stands in memory as PoolR says. · A pool, alone, its pile linked anyhow: Take as a call. Condition: the pool stands in memory as PoolR says. -/
import Derived.Test.YtpknnamficegbaaGreatDoorCPile
import Derived.Test.YtpknnamficegbaaGreatDoorCPoolY
set_option linter.unusedVariables false
set_option linter.unusedSimpArgs false
set_option linter.unusedSectionVars false
set_option linter.unnecessarySimpa false
namespace Go.Proofs.YtpknnamficegbaaGreatDoor
open Go.RowKit

/-- A pile at block pb, its places' next ones in block nb: n places, the tag t, the head hd, whatever is linked. -/
structure PileR (w : World) (pb nb n hd : Nat) (t : Int) (nx : List Int) : Prop where
  head : Blk w pb #[.int .i64 (wd (hd : Nat) t), .slice (some ⟨nb, 0, none⟩) (n + 1) (n + 1)] 161
  row : Blk w nb (nx.map (Value.int .i64)).toArray 102
  len : nx.length = n + 1
  apart : pb ≠ nb
  many : 1 ≤ n ∧ n ≤ 4096
  tag : 0 ≤ t ∧ t ≤ 1000000000000
  hdr : hd ≤ n
  rng : ∀ j, j ≤ n → 0 ≤ nx.getD j 0 ∧ nx.getD j 0 ≤ n

theorem PileR.only {S : List Nat} {w w' : World} {pb nb n hd : Nat} {t : Int} {nx : List Int} (h : PileR w pb nb n hd t nx) (o : Only S w w') (hb : pb ∉ S) (hq : nb ∉ S) : PileR w' pb nb n hd t nx :=
  ⟨h.head.only o hb, h.row.only o hq, h.len, h.apart, h.many, h.tag, h.hdr, h.rng⟩

theorem PileR.at {w : World} {pb nb n hd : Nat} {t : Int} {nx : List Int} (h : PileR w pb nb n hd t nx) {i : Nat} (hi : i ≤ n) : w.cell? ⟨nb, i, none⟩ = some (.int .i64 (nx.getD i 0)) := by
  have hl := h.len
  refine h.row.cell i ?_
  simp [List.getElem?_eq_getElem (show i < nx.length by omega), List.getD]

theorem PileAt.raw {w : World} {pb nb n : Nat} {t : Int} {fs : List Nat} {nx : List Int} (h : PileAt w pb nb n t fs nx) (hr : ∀ j, j ≤ n → 0 ≤ nx.getD j 0 ∧ nx.getD j 0 ≤ n) : PileR w pb nb n (fs.headD 0) t nx :=
  ⟨h.head, h.row, h.len, h.apart, h.many, h.tag, by have := (top_range h.range).2; unfold top at this; omega, hr⟩

set_option maxHeartbeats 400000 in
theorem rpop_none (pb nb n : Nat) (t : Int) (nx : List Int) (f : Value) (w : World) (h : PileR w pb nb n 0 t nx) :
    Calls Tryz.prog 56 #[.pointer (some ⟨pb, 0, none⟩), .pointer none, f] w fun e w' => e = .returned (.tuple #[.int .i64 0, .int .i64 83]) ∧ w = w' := by
  have ht := h.tag
  have hr := wd_range (x := ((0 : Nat) : Int)) (t := t) (by omega) (by omega) ht.1 (by omega)
  have hx := Lib.hid (wd_index (x := ((0 : Nat) : Int)) ht.1 (show t ≤ 1099511627775 by omega))
  have hc := h.head.cell 0 rfl
  go_enter Tryz.func56, Tryz.ntmps56
  go_wp2_with fail
  refine wp_loop_rounds 1 ?_
  rw [rounds_succ]
  go_wp2_with fail
  refine (step_nil _).mono ?_
  rintro e w' ⟨rfl, rfl⟩
  go_wp2_with fail
  refine (load_any _ _ _ hc).mono ?_
  rintro e w' ⟨rfl, rfl⟩
  go_wp2_with fail
  refine (word_index _ _ hr.1 hr.2).mono ?_
  rw [hx.out]
  rintro e w' ⟨rfl, rfl⟩
  rw [show ((0 : Nat) : Int) = 0 from rfl]
  go_wp2_with fail
  go_ret2
  exact ⟨rfl, rfl⟩

theorem PileR.popped {w w1 : World} {pb nb n i k : Nat} {t : Int} {nx : List Int} (h : PileR w pb nb n i t nx) (hk : k ≤ n) (ht : t + 1 ≤ 1000000000000) (hw : w.setCell ⟨pb, 0, none⟩ (.int .i64 (wd (k : Nat) (t + 1))) = w1) : PileR w1 pb nb n k (t + 1) nx ∧ Only [pb] w w1 := by
  subst hw
  refine ⟨⟨?_, h.row.set_other (fun e => h.apart e.symm) _, h.len, h.apart, h.many, ?_, hk, h.rng⟩, Only.setCell _ (by simp) _⟩
  · have := h.head.set_same 0 (.int .i64 (wd (k : Nat) (t + 1)))
    simpa using this
  · have := h.tag; omega

set_option maxHeartbeats 800000 in
theorem rpop (pb nb n i k : Nat) (t : Int) (nx : List Int) (a b c d : Value) (R : World → Prop) (w : World) (h : PileR w pb nb n i t nx) (hi1 : 1 ≤ i) (hk : nx.getD i 0 = (k : Nat)) (ht1 : t + 1 ≤ 1000000000000)
    (hthen : ∀ w1, PileR w1 pb nb n k (t + 1) nx → Only [pb] w w1 → Calls Tryz.prog 57 #[.int .i64 i, a, b, c, d] w1 fun e w' => e = .returned (.tuple #[]) ∧ R w') :
    Calls Tryz.prog 56 #[.pointer (some ⟨pb, 0, none⟩), .pointer none, .func (.func 57) #[] #[a, b, c, d]] w fun e w' => e = .returned (.tuple #[.int .i64 i, .int .i64 0]) ∧ R w' := by
  have ht := h.tag
  have hi2 := h.hdr
  have hkr := h.rng i hi2
  have hm := h.many
  have hil : i < n + 1 := by omega
  have hr := wd_range (x := (i : Int)) (t := t) (by omega) (by omega) ht.1 (by omega)
  have hx := Lib.hid (wd_index (x := (i : Int)) ht.1 (show t ≤ 1099511627775 by omega))
  have hy := Lib.hid (wd_tag (x := (i : Int)) ht.1 (show t ≤ 1099511627775 by omega))
  have hc := h.head.cell 0 rfl
  have hsl : w.cell? ⟨pb, 1, none⟩ = some (.slice (some ⟨nb, 0, none⟩) (n + 1) (n + 1)) := h.head.cell 1 rfl
  have hnx := h.at (i := i) (by omega)
  rw [hk] at hnx hkr
  have htr0 : (0 : Int) ≤ k := hkr.1
  have htr1 : (k : Int) ≤ n := hkr.2
  have hp := Lib.hid (fun w1 => PileR.popped (w1 := w1) h (show k ≤ n by omega) ht1)
  have HT := Lib.hid hthen
  have hfree := h.head.free 0
  have ht2 : ((t + 1) % 1099511627776 : Int) = t + 1 := by omega
  have HT2 := Lib.hid ht2
  have hi0 : ((i : Int) == 0) = false := by simp; omega
  clear hthen h ht2
  obtain ⟨hr0, hr1⟩ := hr
  generalize hX : wd (i : Int) t = X at *
  have HX := Lib.hid hX
  clear hX
  go_enter Tryz.func56, Tryz.ntmps56
  go_wp2_with fail
  refine wp_loop_rounds 1 ?_
  rw [rounds_succ]
  go_wp2_with fail
  refine (step_nil _).mono ?_
  rintro e w' ⟨rfl, rfl⟩
  go_wp2_with fail
  refine (load_any _ _ _ hc).mono ?_
  rintro e w' ⟨rfl, rfl⟩
  go_wp2_with fail
  refine (word_index _ _ hr0 hr1).mono ?_
  rw [hx.out]
  rintro e w' ⟨rfl, rfl⟩
  go_wp2_with fail
  refine (step_nil _).mono ?_
  rintro e w' ⟨rfl, rfl⟩
  go_wp2_with fail
  refine (load_any _ _ _ hnx).mono ?_
  rintro e w' ⟨rfl, rfl⟩
  go_wp2_with fail
  refine (step_nil _).mono ?_
  rintro e w' ⟨rfl, rfl⟩
  go_wp2_with fail
  refine (word_next _ _ _ hr0 hr1 htr0 (by omega)).mono ?_
  rw [hy.out, HT2.out]
  rintro e w' ⟨rfl, rfl⟩
  go_wp2_with fail
  refine (cas_hit _ _ _ _ hc hfree).mono ?_
  rintro e w1 ⟨rfl, hw⟩
  obtain ⟨hP, hO⟩ := hp.out w1 hw
  clear hw
  go_wp2_with fail
  refine (HT.out w1 hP hO).mono ?_
  rintro e w2 ⟨rfl, hR⟩
  have HR := Lib.hid hR
  clear hR
  go_wp2_with fail
  go_ret2
  exact ⟨rfl, HR.out⟩

theorem getD_set (nx : List Int) (i j : Nat) (x : Int) (hi : i < nx.length) : (nx.set i x).getD j 0 = if i = j then x else nx.getD j 0 := by
  by_cases h : i = j
  · subst h
    simp [List.getD, hi]
  · rw [if_neg h, List.getD, List.getElem?_set_ne h]
    rfl

theorem PileR.linked {w w1 : World} {pb nb n i hd : Nat} {t : Int} {nx : List Int} (h : PileR w pb nb n hd t nx) (hi : i ≤ n) (x : Nat) (hx : x ≤ n) {m : Nat} (hw : (w.drewN m).setCell ⟨nb, i, none⟩ (.int .i64 (x : Nat)) = w1) : PileR w1 pb nb n hd t (nx.set i (x : Nat)) ∧ Only [nb] w w1 := by
  subst hw
  have hO : Only [nb] w ((w.drewN m).setCell ⟨nb, i, none⟩ (.int .i64 (x : Nat))) := (Only.drewN _ w m).trans (Only.setCell _ (by simp) _)
  have hl := h.len
  refine ⟨⟨h.head.only hO (by simp [h.apart]), ?_, by simp [h.len], h.apart, h.many, h.tag, h.hdr, fun j hj => ?_⟩, hO⟩
  · have := Blk.set_same (w := w.drewN m) h.row i (.int .i64 (x : Nat))
    simpa [List.map_set] using this
  · rw [getD_set _ _ _ _ (by omega)]
    split
    · omega
    · exact h.rng j hj

theorem PileR.pushed {w w1 : World} {pb nb n i hd : Nat} {t : Int} {nx : List Int} (h : PileR w pb nb n hd t nx) (hi : i ≤ n) (ht : t + 1 ≤ 1000000000000) (hw : w.setCell ⟨pb, 0, none⟩ (.int .i64 (wd i (t + 1))) = w1) :
    PileR w1 pb nb n i (t + 1) nx ∧ Only [pb] w w1 := h.popped hi ht hw

set_option maxHeartbeats 400000 in
theorem rpile_is (pb nb n hd : Nat) (t : Int) (nx : List Int) (i : Int) (w : World) (h : PileR w pb nb n hd t nx) :
    Calls Tryz.prog 112 #[.pointer (some ⟨pb, 0, none⟩), .int .i64 i] w fun e w' => e = .returned (.bool (decide (1 ≤ i ∧ i ≤ n))) ∧ w = w' := by
  have hsl : w.cell? ⟨pb, 1, none⟩ = some (.slice (some ⟨nb, 0, none⟩) (n + 1) (n + 1)) := h.head.cell 1 rfl
  by_cases h0 : 1 ≤ i
  · by_cases h1 : i < (n : Int) + 1
    · go_enter Tryz.func112, Tryz.ntmps112
      go_wp2
      go_ret
      exact ⟨by simp <;> omega, rfl⟩
    · have h1' : decide (i < (n : Int) + 1) = false := by simpa using h1
      go_enter Tryz.func112, Tryz.ntmps112
      go_wp2
      go_ret
      exact ⟨by simp <;> omega, rfl⟩
  · go_enter Tryz.func112, Tryz.ntmps112
    go_wp2
    go_ret
    exact ⟨by simp <;> omega, rfl⟩

set_option maxHeartbeats 800000 in
theorem rpush (pb nb n i hd : Nat) (t : Int) (nx : List Int) (w : World) (h : PileR w pb nb n hd t nx) (ht1 : t + 1 ≤ 1000000000000) (hr : 1 ≤ i ∧ i ≤ n) :
    Calls Tryz.prog 65 #[.pointer (some ⟨pb, 0, none⟩), .pointer none, .int .i64 i] w fun e w' => e = .returned (.int .i64 0) ∧ PileR w' pb nb n i (t + 1) (nx.set i (hd : Nat)) ∧ Only [pb, nb] w w' := by
  have H := Lib.hid h
  have hm := h.many
  have ht := h.tag
  have hhd := h.hdr
  have hw := wd_range (x := (hd : Int)) (t := t) (by omega) (by omega) ht.1 (by omega)
  have hx := Lib.hid (wd_index (x := (hd : Int)) ht.1 (show t ≤ 1099511627775 by omega))
  have hy := Lib.hid (wd_tag (x := (hd : Int)) ht.1 (show t ≤ 1099511627775 by omega))
  have HT2 := Lib.hid (show ((t + 1) % 1099511627776 : Int) = t + 1 by omega)
  have hc := h.head.cell 0 rfl
  have hl := h.len
  have hn0 := h.row.cell (vs := _) i (v := .int .i64 (nx.getD i 0)) (by simp [List.getElem?_eq_getElem (show i < nx.length by omega), List.getD])
  have hnf := h.row.free i
  have hsl : w.cell? ⟨pb, 1, none⟩ = some (.slice (some ⟨nb, 0, none⟩) (n + 1) (n + 1)) := h.head.cell 1 rfl
  have hap := h.apart
  have HIS := Lib.hid (fun w => rpile_is pb nb n hd t nx i w)
  have hdec : decide (1 ≤ (i : Int) ∧ (i : Int) ≤ n) = true := decide_eq_true (by omega)
  obtain ⟨hw0, hw1⟩ := hw
  obtain ⟨hr1, hr2⟩ := hr
  have hil : (i : Int) < (n : Int) + 1 := by omega
  generalize nx.getD i 0 = old at hn0
  generalize hX : wd (hd : Int) t = X at *
  have HX := Lib.hid hX
  have HL := Lib.hid hl
  clear hX hl h
  go_enter Tryz.func65, Tryz.ntmps65
  go_wp2_with fail
  refine (HIS.out _ H.out).mono ?_
  rw [hdec]
  rintro e w' ⟨rfl, rfl⟩
  clear hdec
  go_wp2_with fail
  refine wp_loop_rounds 1 ?_
  rw [rounds_succ]
  go_wp2_with fail
  refine (step_nil _).mono ?_
  rintro e w' ⟨rfl, rfl⟩
  go_wp2_with fail
  refine (load_any _ _ _ hc).mono ?_
  rintro e w' ⟨rfl, rfl⟩
  go_wp2_with fail
  refine (step_nil _).mono ?_
  rintro e w' ⟨rfl, rfl⟩
  go_upto_region 7 with fail
  go_cut [31] (fun s31 wc => s31 = .int .i64 (hd : Nat) ∧ PileR wc pb nb n hd t (nx.set i (hd : Nat)) ∧ Only [nb] w wc)
  case first =>
    go_region_with (first | (go_at_call 66; refine (word_index X _ hw0 hw1).mono ?_; rw [hx.out]; rintro e w' ⟨rfl, rfl⟩) | (go_at_call 64; refine (store_any _ _ _ w.drew hn0 hnf).mono ?_; rintro e w' ⟨rfl, rfl⟩))
    all_goals (go_wp2_with fail; go_meet)
    all_goals exact ⟨rfl, H.out.linked hr2 hd hhd (m := 1) rfl⟩
  case rest =>
    obtain ⟨rfl, hP, hO⟩ := hcut
    have hc2 := hP.head.cell 0 rfl
    rw [HX.out] at hc2
    have hf2 := hP.head.free 0
    have hpu := Lib.hid (fun w1 => PileR.pushed (i := i) (w1 := w1) hP hr2 ht1)
    clear hP hc hn0 hnf hsl H HIS HL
    go_wp2_with fail
    refine (step_nil _).mono ?_
    rintro e w' ⟨rfl, rfl⟩
    go_wp2_with fail
    refine (word_next _ _ _ hw0 hw1 (by omega) (by omega)).mono ?_
    rw [hy.out, HT2.out]
    rintro e w' ⟨rfl, rfl⟩
    go_wp2_with fail
    refine (cas_hit _ _ _ _ hc2 hf2).mono ?_
    rintro e w1 ⟨rfl, hw⟩
    obtain ⟨hP, hO1⟩ := hpu.out w1 hw
    clear hw
    go_wp2_with fail
    go_ret
    exact ⟨rfl, hP, (hO.mono (by simp)).trans (hO1.mono (by simp))⟩

end Go.Proofs.YtpknnamficegbaaGreatDoor

namespace Go.Proofs.YtpknnamficegbaaGreatDoor
open Go.RowKit

/-- A pool of n slots: the slots S, the pile's tag t, the free places fs, so many faults. -/
structure PoolR (w : World) (A : PA) (n : Nat) (S : Nat → Sl) (hd : Nat) (t : Int) (nx : List Int) (fa : Int) : Prop where
  head : Blk w A.p #[.slice (some ⟨A.sb, 0, none⟩) (n + 1) (n + 1), .pointer (some ⟨A.pb, 0, none⟩), .int .i64 fa] 104
  row : RowI w A.sb ((n + 1) * 7) (flat S) 112
  pile : PileR w A.pb A.nb n hd t nx
  apart : A.p ≠ A.sb ∧ A.p ≠ A.pb ∧ A.p ≠ A.nb ∧ A.sb ≠ A.pb ∧ A.sb ≠ A.nb

theorem PoolR.only {L : List Nat} {w w' : World} {A : PA} {n : Nat} {S : Nat → Sl} {hd : Nat} {t : Int} {nx : List Int} {fa : Int} (h : PoolR w A n S hd t nx fa) (o : Only L w w') (hn : ∀ k, k ∈ A.all → k ∉ L) : PoolR w' A n S hd t nx fa := by
  have hp := h.pile
  exact ⟨h.head.only o (hn _ (by simp [PA.all])), h.row.only o (hn _ (by simp [PA.all])), hp.only o (hn _ (by simp [PA.all])) (hn _ (by simp [PA.all])), h.apart⟩

theorem PoolR.many {w : World} {A : PA} {n : Nat} {S : Nat → Sl} {hd : Nat} {t : Int} {nx : List Int} {fa : Int} (h : PoolR w A n S hd t nx fa) : 1 ≤ n ∧ n ≤ 4096 := by
  have hp := h.pile
  exact hp.many

/-- Where another turn of the slots' block alone has been made. -/
theorem PoolR.slots {w w' : World} {A : PA} {n : Nat} {S S' : Nat → Sl} {hd : Nat} {t : Int} {nx : List Int} {fa : Int} (h : PoolR w A n S hd t nx fa) (hr : RowI w' A.sb ((n + 1) * 7) (flat S') 112) (o : Only [A.sb] w w') : PoolR w' A n S' hd t nx fa := by
  have hp := h.pile
  have ha := h.apart
  exact ⟨h.head.only o (by simp [ha.1]), hr, hp.only o (by simp; exact fun e => ha.2.2.2.1 e.symm) (by simp; exact fun e => ha.2.2.2.2 e.symm), h.apart⟩

set_option maxHeartbeats 800000 in
theorem rpool_at_bad (A : PA) (n : Nat) (S : Nat → Sl) (hd : Nat) (t : Int) (nx : List Int) (fa h : Int) (w : World) (H : PoolR w A n S hd t nx fa) (hb : ¬ isHandle n h) :
    Calls Tryz.prog 61 #[.pointer (some ⟨A.p, 0, none⟩), .int .i64 h] w fun e w' => e = .returned (.tuple #[.pointer none, .int .i64 0]) ∧ w = w' := by
  have hsl := H.head.cell 0 rfl
  have hm := H.many
  have hir := idxOf_range h
  have htr := tagOf_range h
  have HB := Lib.hid (show ¬ (1 ≤ idxOf h ∧ idxOf h ≤ n ∧ tagOf h % 2 = 1) from hb)
  have hC1 := Lib.hid (fun w => word_idx h w)
  have hC2 := Lib.hid (fun w => word_tg h w)
  clear hb
  generalize idxOf h = x at *
  generalize tagOf h = g at *
  obtain ⟨hx0, hx1⟩ := hir
  obtain ⟨hg0, hg1⟩ := htr
  by_cases h1 : x < 1
  · go_enter Tryz.func61, Tryz.ntmps61
    go_wp2_with fail
    refine (hC1.out _).mono ?_
    rintro e w' ⟨rfl, rfl⟩
    go_wp2_with fail
    refine (hC2.out _).mono ?_
    rintro e w' ⟨rfl, rfl⟩
    go_wp2_with fail
    go_ret2
    exact ⟨rfl, rfl⟩
  · by_cases h2 : (n : Int) + 1 ≤ x
    · go_enter Tryz.func61, Tryz.ntmps61
      go_wp2_with fail
      refine (hC1.out _).mono ?_
      rintro e w' ⟨rfl, rfl⟩
      go_wp2_with fail
      refine (hC2.out _).mono ?_
      rintro e w' ⟨rfl, rfl⟩
      go_wp2_with fail
      go_ret2
      exact ⟨rfl, rfl⟩
    · have h3 : (g % 2 == 0) = true := by
        have := HB.out
        simp
        omega
      go_enter Tryz.func61, Tryz.ntmps61
      go_wp2_with fail
      refine (hC1.out _).mono ?_
      rintro e w' ⟨rfl, rfl⟩
      go_wp2_with fail
      refine (hC2.out _).mono ?_
      rintro e w' ⟨rfl, rfl⟩
      go_wp2_with fail
      go_ret2
      exact ⟨rfl, rfl⟩

set_option maxHeartbeats 800000 in
theorem rpool_at (A : PA) (n i : Nat) (S : Nat → Sl) (hd : Nat) (t : Int) (nx : List Int) (fa h g : Int) (w : World) (H : PoolR w A n S hd t nx fa) (h1 : 1 ≤ i) (h2 : i ≤ n) (hi : idxOf h = i) (hg : tagOf h = g) (ho : g % 2 = 1) :
    Calls Tryz.prog 61 #[.pointer (some ⟨A.p, 0, none⟩), .int .i64 h] w fun e w' => e = .returned (.tuple #[.pointer (some ⟨A.sb, i * 7, none⟩), .int .i64 g]) ∧ w = w' := by
  have hsl := H.head.cell 0 rfl
  have hm := H.many
  have htr := tagOf_range h
  have hC1 := Lib.hid (fun w => word_idx h w)
  have hC2 := Lib.hid (fun w => word_tg h w)
  rw [hi] at hC1
  rw [hg] at hC2 htr
  have h3 : (g % 2 == 0) = false := by simp; omega
  have hil : (i : Int) < (n : Int) + 1 := by omega
  clear hi hg ho
  obtain ⟨hg0, hg1⟩ := htr
  go_enter Tryz.func61, Tryz.ntmps61
  go_wp2_with fail
  refine (hC1.out _).mono ?_
  rintro e w' ⟨rfl, rfl⟩
  go_wp2_with fail
  refine (hC2.out _).mono ?_
  rintro e w' ⟨rfl, rfl⟩
  go_wp2_with fail
  go_ret2
  exact ⟨rfl, rfl⟩

set_option maxHeartbeats 800000 in
theorem rpool_meets (A : PA) (n i : Nat) (S : Nat → Sl) (hd : Nat) (t : Int) (nx : List Int) (fa h g : Int) (w : World) (H : PoolR w A n S hd t nx fa) (h1 : 1 ≤ i) (h2 : i ≤ n) (hi : idxOf h = i) (hg : tagOf h = g) (ho : g % 2 = 1) (hS : (S i).gen = g) :
    Calls Tryz.prog 68 #[.pointer (some ⟨A.p, 0, none⟩), .pointer none, .int .i64 h] w fun e w' => e = .returned (.tuple #[.pointer (some ⟨A.sb, i * 7, none⟩), .int .i64 0]) ∧ w = w' := by
  have hA := Lib.hid (fun w H => rpool_at A n i S hd t nx fa h g w H h1 h2 hi hg ho)
  have hc := H.row.slot i 0 (by omega) (slot_room h2)
  rw [show (S i).get 0 = g from hS] at hc
  have HH := Lib.hid H
  have H3 := Lib.hid hS
  have H4 := Lib.hid hi
  have H5 := Lib.hid hg
  clear H hi hg ho hS
  go_enter Tryz.func68, Tryz.ntmps68
  go_wp2_with fail
  refine (step_nil _).mono ?_
  rintro e w' ⟨rfl, rfl⟩
  go_wp2_with fail
  refine (hA.out _ HH.out).mono ?_
  rintro e w' ⟨rfl, rfl⟩
  go_wp2_with fail
  refine (load_any _ _ _ hc).mono ?_
  rintro e w' ⟨rfl, rfl⟩
  go_wp2_with fail
  go_ret2
  exact ⟨rfl, rfl⟩

set_option maxHeartbeats 800000 in
theorem rpool_meets_bad (A : PA) (n : Nat) (S : Nat → Sl) (hd : Nat) (t : Int) (nx : List Int) (fa h : Int) (w : World) (H : PoolR w A n S hd t nx fa) (hb : ¬ isHandle n h) :
    Calls Tryz.prog 68 #[.pointer (some ⟨A.p, 0, none⟩), .pointer none, .int .i64 h] w fun e w' => e = .returned (.tuple #[.pointer none, .int .i64 103]) ∧ w = w' := by
  have hA := Lib.hid (fun w H => rpool_at_bad A n S hd t nx fa h w H hb)
  have HH := Lib.hid H
  clear H hb
  go_enter Tryz.func68, Tryz.ntmps68
  go_wp2_with fail
  refine (step_nil _).mono ?_
  rintro e w' ⟨rfl, rfl⟩
  go_wp2_with fail
  refine (hA.out _ HH.out).mono ?_
  rintro e w' ⟨rfl, rfl⟩
  go_wp2_with fail
  go_ret2
  exact ⟨rfl, rfl⟩

theorem PoolR.fault {w w1 : World} {A : PA} {n : Nat} {S : Nat → Sl} {hd : Nat} {t : Int} {nx : List Int} {fa : Int} (H : PoolR w A n S hd t nx fa) (x : Int) (hw : w.setCell ⟨A.p, 2, none⟩ (.int .i64 x) = w1) : PoolR w1 A n S hd t nx x ∧ Only A.all w w1 := by
  subst hw
  have ha := H.apart
  have o : Only [A.p] w (w.setCell ⟨A.p, 2, none⟩ (.int .i64 x)) := Only.setCell _ (by simp) _
  have hp := H.pile
  refine ⟨⟨?_, H.row.only o (by simp; exact fun e => ha.1 e.symm), hp.only o (by simp; exact fun e => ha.2.1 e.symm) (by simp; exact fun e => ha.2.2.1 e.symm), ha⟩, o.mono (by simp [PA.all])⟩
  have := H.head.set_same 2 (.int .i64 x)
  simpa using this

set_option maxHeartbeats 800000 in
theorem rpool_meets_gone (A : PA) (n i : Nat) (S : Nat → Sl) (hd : Nat) (t : Int) (nx : List Int) (fa h g : Int) (w : World) (H : PoolR w A n S hd t nx fa) (h1 : 1 ≤ i) (h2 : i ≤ n) (hi : idxOf h = i) (hg : tagOf h = g) (ho : g % 2 = 1) (hS : (S i).gen ≠ g) (hfa : 0 ≤ fa ∧ fa ≤ 1000000000000) :
    Calls Tryz.prog 68 #[.pointer (some ⟨A.p, 0, none⟩), .pointer none, .int .i64 h] w fun e w' => e = .returned (.tuple #[.pointer none, .int .i64 104]) ∧ PoolR w' A n S hd t nx (fa + 1) ∧ Only A.all w w' := by
  have hA := Lib.hid (fun w H => rpool_at A n i S hd t nx fa h g w H h1 h2 hi hg ho)
  have hc := H.row.slot i 0 (by omega) (slot_room h2)
  have hne : ((S i).gen != g) = true := by simpa using hS
  rw [show (S i).get 0 = (S i).gen from rfl] at hc
  have hp2 := H.head.cell 2 rfl
  have hf2 := H.head.free 2
  have hF := Lib.hid (fun w1 => PoolR.fault (w1 := w1) H (fa + 1))
  have hs : (Op.intArith .add .i64 fa 1).run Tryz.prog w = .ok (.int .i64 (fa + 1)) w := by
    have : IntKind.i64.wrap (fa + 1) = fa + 1 := wraps_i64 _ (by omega) (by omega)
    simp [Op.intArith, this]
  have HH := Lib.hid H
  have HS := Lib.hid hs
  have H4 := Lib.hid hi
  have H5 := Lib.hid hg
  clear H hi hg ho hS hs
  generalize (S i).gen = gg at *
  go_enter Tryz.func68, Tryz.ntmps68
  go_wp2_with fail
  refine (step_nil _).mono ?_
  rintro e w' ⟨rfl, rfl⟩
  go_wp2_with fail
  refine (hA.out _ HH.out).mono ?_
  rintro e w' ⟨rfl, rfl⟩
  go_wp2_with fail
  refine (load_any _ _ _ hc).mono ?_
  rintro e w' ⟨rfl, rfl⟩
  go_wp2_with fail
  refine (add_any _ fa 1 (fa + 1) _ hp2 hf2 HS.out).mono ?_
  rintro e w1 ⟨rfl, hw⟩
  obtain ⟨hP, hO⟩ := hF.out w1 hw
  clear hw
  go_wp2_with fail
  go_ret2
  exact ⟨rfl, hP, hO⟩


/-- The handle is a slot's in use. -/
def RMeets (A : PA) (n : Nat) (S : Nat → Sl) (hd : Nat) (t : Int) (nx : List Int) (fa h : Int) (i : Nat) : Prop :=
  ∀ w, PoolR w A n S hd t nx fa → Calls Tryz.prog 68 #[.pointer (some ⟨A.p, 0, none⟩), .pointer none, .int .i64 h] w fun e w' => e = .returned (.tuple #[.pointer (some ⟨A.sb, i * 7, none⟩), .int .i64 0]) ∧ w = w'

/-- The handle is none's, or a slot's that was given back. -/
def RMisses (A : PA) (n : Nat) (S : Nat → Sl) (hd : Nat) (t : Int) (nx : List Int) (fa h err fa' : Int) : Prop :=
  ∀ w, PoolR w A n S hd t nx fa → Calls Tryz.prog 68 #[.pointer (some ⟨A.p, 0, none⟩), .pointer none, .int .i64 h] w fun e w' => e = .returned (.tuple #[.pointer none, .int .i64 err]) ∧ PoolR w' A n S hd t nx fa' ∧ Only A.all w w'

theorem rmeets_of {A : PA} {n i : Nat} {S : Nat → Sl} {hd : Nat} {t : Int} {nx : List Int} {fa h g : Int} (h1 : 1 ≤ i) (h2 : i ≤ n) (hi : idxOf h = i) (hg : tagOf h = g) (ho : g % 2 = 1) (hS : (S i).gen = g) : RMeets A n S hd t nx fa h i :=
  fun w H => rpool_meets A n i S hd t nx fa h g w H h1 h2 hi hg ho hS

theorem rmisses_bad {A : PA} {n : Nat} {S : Nat → Sl} {hd : Nat} {t : Int} {nx : List Int} {fa h : Int} (hb : ¬ isHandle n h) : RMisses A n S hd t nx fa h 103 fa :=
  fun w H => (rpool_meets_bad A n S hd t nx fa h w H hb).mono fun _ _ x => ⟨x.1, x.2 ▸ H, x.2 ▸ Only.refl _ _⟩

theorem rmisses_gone {A : PA} {n i : Nat} {S : Nat → Sl} {hd : Nat} {t : Int} {nx : List Int} {fa h g : Int} (h1 : 1 ≤ i) (h2 : i ≤ n) (hi : idxOf h = i) (hg : tagOf h = g) (ho : g % 2 = 1) (hS : (S i).gen ≠ g) (hfa : 0 ≤ fa ∧ fa ≤ 1000000000000) : RMisses A n S hd t nx fa h 104 (fa + 1) :=
  fun w H => rpool_meets_gone A n i S hd t nx fa h g w H h1 h2 hi hg ho hS hfa

set_option maxHeartbeats 800000 in
theorem rpool_read (A : PA) (n i : Nat) (S : Nat → Sl) (hd : Nat) (t : Int) (nx : List Int) (fa h : Int) (w : World) (H : PoolR w A n S hd t nx fa) (h2 : i ≤ n) (M : RMeets A n S hd t nx fa h i) :
    Calls Tryz.prog 15 #[.pointer (some ⟨A.p, 0, none⟩), .pointer none, .int .i64 h] w fun e w' => e = .returned (.tuple #[.agg #[.int .i64 (S i).a, .int .i64 (S i).b, .int .i64 (S i).c, .int .i64 (S i).d], .int .i64 0]) ∧ Only [] w w' := by
  have HM := Lib.hid M
  clear M
  go_enter Tryz.func15, Tryz.ntmps15
  go_wp2_with fail
  refine calls_name (fun w1 => PoolR w1 A n S hd t nx fa ∧ Blk w1 w.heap.size #[.int .i64 0, .int .i64 0, .int .i64 0, .int .i64 0] 43 ∧ Only [] w w1) ⟨H.only (Only.alloc [] _ _) (by simp), Blk.new _ _ _, Only.alloc _ _ _⟩ ?_
  rintro w1 ⟨hP, hB, hO⟩
  refine (HM.out _ hP).mono ?_
  rintro e w' ⟨rfl, rfl⟩
  go_wp2_with fail
  refine (slot_holds _ _ i S _ hP.row (slot_room h2)).mono ?_
  rintro e w2 ⟨rfl, hX⟩
  have hB2 := hB.only hX (by simp)
  have hO2 := hO.trans hX
  have hr0 := hB2.cell 0 rfl
  have hr1 := hB2.cell 1 rfl
  have hr2 := hB2.cell 2 rfl
  have hr3 := hB2.cell 3 rfl
  have hf0 := hB2.free 0
  have hf1 := hB2.free 1
  have hf2 := hB2.free 2
  have hf3 := hB2.free 3
  clear hP hB hO hX H
  go_wp2_with fail
  refine bodyPost_ret (v := .tuple #[.agg #[.int .i64 (S i).a, .int .i64 (S i).b, .int .i64 (S i).c, .int .i64 (S i).d], .int .i64 0]) (by simp [results, Tryz.results15, go_sem, hr0, hr1, hr2, hr3]) rfl ⟨rfl, ?_⟩
  exact hO2.past (((((Only.setCell (S := [w.heap.size]) w2 (a := ⟨w.heap.size, 0, none⟩) (by simp) _)).trans (Only.setCell _ (by simp) _)).trans (Only.setCell _ (by simp) _)).trans (Only.setCell _ (by simp) _)) (by simp)

set_option maxHeartbeats 800000 in
theorem rpool_read_err (A : PA) (n : Nat) (S : Nat → Sl) (hd : Nat) (t : Int) (nx : List Int) (fa h err fa' : Int) (w : World) (H : PoolR w A n S hd t nx fa) (M : RMisses A n S hd t nx fa h err fa') (he : (err != 0) = true) :
    Calls Tryz.prog 15 #[.pointer (some ⟨A.p, 0, none⟩), .pointer none, .int .i64 h] w fun e w' => e = .returned (.tuple #[.agg #[.int .i64 0, .int .i64 0, .int .i64 0, .int .i64 0], .int .i64 err]) ∧ PoolR w' A n S hd t nx fa' ∧ Only A.all w w' := by
  have HM := Lib.hid M
  have hpl : ∀ k, k ∈ A.all → k < w.heap.size := by
    intro k hk
    have hp := H.pile
    have := H.head.lt; have := H.row.lt; have := hp.head.lt; have := hp.row.lt
    simp [PA.all] at hk
    omega
  have hnn : w.heap.size ∉ A.all := fun hk => by have := hpl _ hk; omega
  have HN := Lib.hid hnn
  have HL := Lib.hid hpl
  clear M hpl hnn
  go_enter Tryz.func15, Tryz.ntmps15
  go_wp2_with fail
  refine calls_name (fun w1 => PoolR w1 A n S hd t nx fa ∧ Blk w1 w.heap.size #[.int .i64 0, .int .i64 0, .int .i64 0, .int .i64 0] 43 ∧ Only [] w w1) ⟨H.only (Only.alloc [] _ _) (by simp), Blk.new _ _ _, Only.alloc _ _ _⟩ ?_
  rintro w1 ⟨hP, hB, hO⟩
  refine (HM.out _ hP).mono ?_
  rintro e w2 ⟨rfl, hP2, hX⟩
  have hB2 := hB.only hX HN.out
  have hO2 := (hO.mono (by simp)).trans hX
  have hr0 := hB2.cell 0 rfl
  have hr1 := hB2.cell 1 rfl
  have hr2 := hB2.cell 2 rfl
  have hr3 := hB2.cell 3 rfl
  have hf0 := hB2.free 0
  have hf1 := hB2.free 1
  have hf2 := hB2.free 2
  have hf3 := hB2.free 3
  clear hP hB hO hX H
  go_wp2_with fail
  have hS := ((((Only.setCell (S := [w.heap.size]) w2 (a := ⟨w.heap.size, 0, none⟩) (by simp) (.int .i64 0))).trans (Only.setCell _ (a := ⟨w.heap.size, 1, none⟩) (by simp) (.int .i64 0))).trans (Only.setCell _ (a := ⟨w.heap.size, 2, none⟩) (by simp) (.int .i64 0))).trans (Only.setCell _ (a := ⟨w.heap.size, 3, none⟩) (by simp) (.int .i64 0))
  refine bodyPost_ret (v := .tuple #[.agg #[.int .i64 0, .int .i64 0, .int .i64 0, .int .i64 0], .int .i64 err]) (by simp [results, Tryz.results15, go_sem, hr0, hr1, hr2, hr3]) rfl ⟨rfl, ?_, ?_⟩
  · exact hP2.only hS (by intro k hk; simp; have := HL.out k hk; omega)
  · exact hO2.past hS (by simp)

set_option maxHeartbeats 400000 in
theorem rpool_mark (A : PA) (n i : Nat) (S : Nat → Sl) (hd : Nat) (t : Int) (nx : List Int) (fa h : Int) (w : World) (H : PoolR w A n S hd t nx fa) (h2 : i ≤ n) (M : RMeets A n S hd t nx fa h i) :
    Calls Tryz.prog 23 #[.pointer (some ⟨A.p, 0, none⟩), .pointer none, .int .i64 h] w fun e w' => e = .returned (.tuple #[.int .i64 (S i).mark, .int .i64 0]) ∧ w = w' := by
  have HM := Lib.hid (M w H)
  have hc := H.row.slot i 1 (by omega) (slot_room h2)
  rw [show (S i).get 1 = (S i).mark from rfl] at hc
  clear M H
  go_enter Tryz.func23, Tryz.ntmps23
  go_wp2_with fail
  refine HM.out.mono ?_
  rintro e w' ⟨rfl, rfl⟩
  go_wp2_with fail
  refine (load_any _ _ _ hc).mono ?_
  rintro e w' ⟨rfl, rfl⟩
  go_wp2_with fail
  go_ret2
  exact ⟨rfl, rfl⟩

set_option maxHeartbeats 400000 in
theorem rpool_mark_err (A : PA) (n : Nat) (S : Nat → Sl) (hd : Nat) (t : Int) (nx : List Int) (fa h err fa' : Int) (w : World) (H : PoolR w A n S hd t nx fa) (M : RMisses A n S hd t nx fa h err fa') (he : (err != 0) = true) :
    Calls Tryz.prog 23 #[.pointer (some ⟨A.p, 0, none⟩), .pointer none, .int .i64 h] w fun e w' => e = .returned (.tuple #[.int .i64 0, .int .i64 err]) ∧ PoolR w' A n S hd t nx fa' ∧ Only A.all w w' := by
  have HM := Lib.hid (M w H)
  clear M H
  go_enter Tryz.func23, Tryz.ntmps23
  go_wp2_with fail
  refine HM.out.mono ?_
  rintro e w2 ⟨rfl, hP, hO⟩
  go_wp2_with fail
  go_ret2
  exact ⟨rfl, hP, hO⟩

theorem PoolR.marked {w w1 : World} {A : PA} {n i : Nat} {S : Nat → Sl} {hd : Nat} {t : Int} {nx : List Int} {fa : Int} (H : PoolR w A n S hd t nx fa) (x : Int) (hw : w.setCell ⟨A.sb, i * 7 + 1, none⟩ (.int .i64 x) = w1) : PoolR w1 A n (upS S i { S i with mark := x }) hd t nx fa ∧ Only A.all w w1 := by
  have hr := H.row.put i 1 x { S i with mark := x } (by omega) rfl (by intro k hk hn; match k, hk, hn with | 0, _, _ => rfl | 2, _, _ => rfl | 3, _, _ => rfl | 4, _, _ => rfl | 5, _, _ => rfl | 6, _, _ => rfl) hw
  have o : Only [A.sb] w w1 := hw ▸ Only.setCell _ (by simp) _
  exact ⟨H.slots hr o, o.mono (by simp [PA.all])⟩

theorem PoolR.linkd {w w1 : World} {A : PA} {n i : Nat} {S : Nat → Sl} {hd : Nat} {t : Int} {nx : List Int} {fa : Int} (H : PoolR w A n S hd t nx fa) (x : Int) (hw : w.setCell ⟨A.sb, i * 7 + 2, none⟩ (.int .i64 x) = w1) : PoolR w1 A n (upS S i { S i with link := x }) hd t nx fa ∧ Only A.all w w1 := by
  have hr := H.row.put i 2 x { S i with link := x } (by omega) rfl (by intro k hk hn; match k, hk, hn with | 0, _, _ => rfl | 1, _, _ => rfl | 3, _, _ => rfl | 4, _, _ => rfl | 5, _, _ => rfl | 6, _, _ => rfl) hw
  have o : Only [A.sb] w w1 := hw ▸ Only.setCell _ (by simp) _
  exact ⟨H.slots hr o, o.mono (by simp [PA.all])⟩

set_option maxHeartbeats 400000 in
theorem rpool_cas_hit (A : PA) (n i : Nat) (S : Nat → Sl) (hd : Nat) (t : Int) (nx : List Int) (fa h x : Int) (w : World) (H : PoolR w A n S hd t nx fa) (h2 : i ≤ n) (M : RMeets A n S hd t nx fa h i) :
    Calls Tryz.prog 25 #[.pointer (some ⟨A.p, 0, none⟩), .pointer none, .int .i64 h, .int .i64 (S i).mark, .int .i64 x] w fun e w' => e = .returned (.tuple #[.bool true, .int .i64 0]) ∧ PoolR w' A n (upS S i { S i with mark := x }) hd t nx fa ∧ Only A.all w w' := by
  have HM := Lib.hid (M w H)
  have hc := H.row.slot i 1 (by omega) (slot_room h2)
  rw [show (S i).get 1 = (S i).mark from rfl] at hc
  have hf := H.row.free (i * 7 + 1)
  have hW := Lib.hid (fun w1 => PoolR.marked (w1 := w1) (i := i) H x)
  clear M H
  go_enter Tryz.func25, Tryz.ntmps25
  go_wp2_with fail
  refine HM.out.mono ?_
  rintro e w' ⟨rfl, rfl⟩
  go_wp2_with fail
  refine (cas_hit _ _ _ _ hc hf).mono ?_
  rintro e w1 ⟨rfl, hw⟩
  obtain ⟨hP, hO⟩ := hW.out w1 hw
  clear hw
  go_wp2_with fail
  go_ret2
  exact ⟨rfl, hP, hO⟩

set_option maxHeartbeats 400000 in
theorem rpool_cas_miss (A : PA) (n i : Nat) (S : Nat → Sl) (hd : Nat) (t : Int) (nx : List Int) (fa h old x : Int) (w : World) (H : PoolR w A n S hd t nx fa) (h2 : i ≤ n) (M : RMeets A n S hd t nx fa h i) (hne : ¬ (S i).mark = old) :
    Calls Tryz.prog 25 #[.pointer (some ⟨A.p, 0, none⟩), .pointer none, .int .i64 h, .int .i64 old, .int .i64 x] w fun e w' => e = .returned (.tuple #[.bool false, .int .i64 0]) ∧ w = w' := by
  have HM := Lib.hid (M w H)
  have hc := H.row.slot i 1 (by omega) (slot_room h2)
  rw [show (S i).get 1 = (S i).mark from rfl] at hc
  have hf := H.row.free (i * 7 + 1)
  have HN := Lib.hid hne
  clear M H hne
  go_enter Tryz.func25, Tryz.ntmps25
  go_wp2_with fail
  refine HM.out.mono ?_
  rintro e w' ⟨rfl, rfl⟩
  go_wp2_with fail
  refine (cas_miss _ _ _ _ _ hc hf HN.out).mono ?_
  rintro e w1 ⟨rfl, rfl⟩
  go_wp2_with fail
  go_ret2
  exact ⟨rfl, rfl⟩

set_option maxHeartbeats 400000 in
theorem rpool_swaplink (A : PA) (n i : Nat) (S : Nat → Sl) (hd : Nat) (t : Int) (nx : List Int) (fa h x : Int) (w : World) (H : PoolR w A n S hd t nx fa) (h2 : i ≤ n) (M : RMeets A n S hd t nx fa h i) :
    Calls Tryz.prog 29 #[.pointer (some ⟨A.p, 0, none⟩), .pointer none, .int .i64 h, .int .i64 x] w fun e w' => e = .returned (.tuple #[.int .i64 (S i).link, .int .i64 0]) ∧ PoolR w' A n (upS S i { S i with link := x }) hd t nx fa ∧ Only A.all w w' := by
  have HM := Lib.hid (M w H)
  have hc := H.row.slot i 2 (by omega) (slot_room h2)
  rw [show (S i).get 2 = (S i).link from rfl] at hc
  have hf := H.row.free (i * 7 + 2)
  have hW := Lib.hid (fun w1 => PoolR.linkd (w1 := w1) (i := i) H x)
  clear M H
  go_enter Tryz.func29, Tryz.ntmps29
  go_wp2_with fail
  refine HM.out.mono ?_
  rintro e w' ⟨rfl, rfl⟩
  go_wp2_with fail
  refine (swap_any _ _ _ _ hc hf).mono ?_
  rintro e w1 ⟨rfl, hw⟩
  obtain ⟨hP, hO⟩ := hW.out w1 hw
  clear hw
  go_wp2_with fail
  go_ret2
  exact ⟨rfl, hP, hO⟩

set_option maxHeartbeats 400000 in
theorem rpool_faults (A : PA) (n : Nat) (S : Nat → Sl) (hd : Nat) (t : Int) (nx : List Int) (fa : Int) (w : World) (H : PoolR w A n S hd t nx fa) :
    Calls Tryz.prog 16 #[.pointer (some ⟨A.p, 0, none⟩)] w fun e w' => e = .returned (.int .i64 fa) ∧ w = w' := by
  have hc := H.head.cell 2 rfl
  go_enter Tryz.func16, Tryz.ntmps16
  go_wp2_with fail
  refine (load_any _ fa _ hc).mono ?_
  rintro e w' ⟨rfl, rfl⟩
  go_wp2_with fail
  go_ret
  exact ⟨rfl, rfl⟩

end Go.Proofs.YtpknnamficegbaaGreatDoor

namespace Go.Proofs.YtpknnamficegbaaGreatDoor
open Go.RowKit

theorem PoolR.gen {w w1 : World} {A : PA} {n i : Nat} {S : Nat → Sl} {hd : Nat} {t : Int} {nx : List Int} {fa : Int} (H : PoolR w A n S hd t nx fa) (x : Int) (hw : w.setCell ⟨A.sb, i * 7, none⟩ (.int .i64 x) = w1) : PoolR w1 A n (upS S i { S i with gen := x }) hd t nx fa ∧ Only A.all w w1 := by
  have hr := H.row.put i 0 x { S i with gen := x } (by omega) rfl (by intro k hk hn; match k, hk, hn with | 1, _, _ => rfl | 2, _, _ => rfl | 3, _, _ => rfl | 4, _, _ => rfl | 5, _, _ => rfl | 6, _, _ => rfl) hw
  have o : Only [A.sb] w w1 := hw ▸ Only.setCell _ (by simp) _
  exact ⟨H.slots hr o, o.mono (by simp [PA.all])⟩

theorem PoolR.piled {w w1 : World} {A : PA} {n hd hd' : Nat} {S : Nat → Sl} {t t' : Int} {nx nx' : List Int} {fa : Int} (H : PoolR w A n S hd t nx fa) (hp : PileR w1 A.pb A.nb n hd' t' nx') (o : Only [A.pb, A.nb] w w1) : PoolR w1 A n S hd' t' nx' fa ∧ Only A.all w w1 := by
  have ha := H.apart
  exact ⟨⟨H.head.only o (by simp [ha.2.1, ha.2.2.1]), H.row.only o (by simp [ha.2.2.2.1, ha.2.2.2.2]), hp, ha⟩, o.mono (by simp [PA.all])⟩

set_option maxHeartbeats 400000 in
theorem rpool_give_bad (A : PA) (n : Nat) (S : Nat → Sl) (hd : Nat) (t : Int) (nx : List Int) (fa h : Int) (w : World) (H : PoolR w A n S hd t nx fa) (hb : ¬ isHandle n h) :
    Calls Tryz.prog 13 #[.pointer (some ⟨A.p, 0, none⟩), .pointer none, .int .i64 h] w fun e w' => e = .returned (.int .i64 103) ∧ w = w' := by
  have hA := Lib.hid (rpool_at_bad A n S hd t nx fa h w H hb)
  clear H hb
  go_enter Tryz.func13, Tryz.ntmps13
  go_wp2_with fail
  refine (step_nil _).mono ?_
  rintro e w' ⟨rfl, rfl⟩
  go_wp2_with fail
  refine hA.out.mono ?_
  rintro e w' ⟨rfl, rfl⟩
  go_wp2_with fail
  go_ret
  exact ⟨rfl, rfl⟩

set_option maxHeartbeats 400000 in
theorem rpool_give_gone (A : PA) (n i : Nat) (S : Nat → Sl) (hd : Nat) (t : Int) (nx : List Int) (fa h g : Int) (w : World) (H : PoolR w A n S hd t nx fa) (h1 : 1 ≤ i) (h2 : i ≤ n) (hi : idxOf h = i) (hg : tagOf h = g) (ho : g % 2 = 1) (hS : ¬ (S i).gen = g) :
    Calls Tryz.prog 13 #[.pointer (some ⟨A.p, 0, none⟩), .pointer none, .int .i64 h] w fun e w' => e = .returned (.int .i64 104) ∧ w = w' := by
  have hA := Lib.hid (rpool_at A n i S hd t nx fa h g w H h1 h2 hi hg ho)
  have hc := H.row.slot i 0 (by omega) (slot_room h2)
  rw [show (S i).get 0 = (S i).gen from rfl] at hc
  have hf := H.row.free (i * 7 + 0)
  have htr := tagOf_range h
  rw [hg] at htr
  obtain ⟨hg0, hg1⟩ := htr
  have HS := Lib.hid hS
  clear H hi hg ho hS
  go_enter Tryz.func13, Tryz.ntmps13
  go_wp2_with fail
  refine (step_nil _).mono ?_
  rintro e w' ⟨rfl, rfl⟩
  go_wp2_with fail
  refine hA.out.mono ?_
  rintro e w' ⟨rfl, rfl⟩
  go_wp2_with fail
  refine (cas_miss _ _ _ _ _ hc hf HS.out).mono ?_
  rintro e w' ⟨rfl, rfl⟩
  go_wp2_with fail
  go_ret
  exact ⟨rfl, rfl⟩

set_option maxHeartbeats 1600000 in
theorem rpool_give (A : PA) (n i : Nat) (S : Nat → Sl) (hd : Nat) (t : Int) (nx : List Int) (fa h g : Int) (w : World) (H : PoolR w A n S hd t nx fa) (h1 : 1 ≤ i) (h2 : i ≤ n) (hi : idxOf h = i) (hg : tagOf h = g) (ho : g % 2 = 1) (hS : (S i).gen = g) (ht : t + 1 ≤ 1000000000000) :
    Calls Tryz.prog 13 #[.pointer (some ⟨A.p, 0, none⟩), .pointer none, .int .i64 h] w fun e w' => e = .returned (.int .i64 0) ∧ PoolR w' A n (upS S i (poisoned (g + 1))) i (t + 1) (nx.set i (hd : Nat)) fa ∧ Only A.all w w' := by
  have hA := Lib.hid (rpool_at A n i S hd t nx fa h g w H h1 h2 hi hg ho)
  have hc := H.row.slot i 0 (by omega) (slot_room h2)
  rw [show (S i).get 0 = g from hS] at hc
  have hf := H.row.free (i * 7 + 0)
  have htr := tagOf_range h
  rw [hg] at htr
  obtain ⟨hg0, hg1⟩ := htr
  have hW := Lib.hid (fun w1 => PoolR.gen (w1 := w1) (i := i) H (g + 1))
  have hI := Lib.hid (fun w => word_idx h w)
  rw [hi] at hI
  clear H hi hg ho hS
  go_enter Tryz.func13, Tryz.ntmps13
  go_wp2_with fail
  refine (step_nil _).mono ?_
  rintro e w' ⟨rfl, rfl⟩
  go_wp2_with fail
  refine hA.out.mono ?_
  rintro e w' ⟨rfl, rfl⟩
  go_wp2_with fail
  refine (cas_hit _ _ _ _ hc hf).mono ?_
  rintro e w1 ⟨rfl, hw⟩
  obtain ⟨hP, hO⟩ := hW.out w1 hw
  clear hw hc hf hA hW
  go_wp2_with fail
  refine calls_name (fun w2 => PoolR w2 A n (upS S i { S i with gen := g + 1 }) hd t nx fa ∧ Blk w2 w1.heap.size #[.int .i64 (-7777777), .int .i64 (-7777777), .int .i64 (-7777777), .int .i64 (-7777777)] 43 ∧ Only A.all w w2 ∧ w2.heap.size = w1.heap.size + 1) ⟨hP.only (Only.alloc [] _ _) (by simp), Blk.new _ _ _, hO.trans (Only.alloc _ _ _), by simp⟩ ?_
  rintro w2 ⟨hP2, hB2, hO2, hz2⟩
  have hsz := hO.size
  clear hP hO
  have HZ2 := Lib.hid hz2
  clear hz2
  refine (slot_holds _ _ i _ _ hP2.row (slot_room h2)).mono ?_
  rw [upS_same]
  rintro e w3 ⟨rfl, hX⟩
  have hP3 := hP2.only hX (by simp)
  have hB3 := hB2.only hX (by simp)
  have hO3 := hO2.trans (hX.mono (by simp))
  have hz3 := hX.size
  clear hP2 hB2 hO2 hX
  generalize hb9 : w1.heap.size = b9 at *
  have HB9 := Lib.hid hb9
  clear hb9
  have hb3 := hB3.lt
  generalize hxa : (S i).a = xa at *
  generalize hxb : (S i).b = xb at *
  generalize hxc : (S i).c = xc at *
  generalize hxd : (S i).d = xd at *
  have HXA := Lib.hid hxa
  have HXB := Lib.hid hxb
  have HXC := Lib.hid hxc
  have HXD := Lib.hid hxd
  clear hxa hxb hxc hxd
  go_upto_region 9 with fail
  refine wp_name (fun w4 => PoolR w4 A n (upS S i { S i with gen := g + 1 }) hd t nx fa ∧ Blk w4 b9 #[.int .i64 (-7777777), .int .i64 (-7777777), .int .i64 (-7777777), .int .i64 (-7777777)] 43 ∧ Blk w4 w3.heap.size #[.int .i64 xa, .int .i64 xb, .int .i64 xc, .int .i64 xd] 43 ∧ Only A.all w w4) ⟨?_, hB3.alloc _, Blk.new _ _ _, hO3.trans (Only.alloc _ _ _)⟩ ?_
  · exact hP3.only (Only.alloc [] _ _) (by simp)
  generalize w3.heap.size = b10
  clear hP3 hB3 hO3 hb3 hz3 w3
  rintro w4 ⟨hP4, hB4, hC4, hO4⟩
  have p0 := hB4.cell 0 rfl
  have p1 := hB4.cell 1 rfl
  have p2 := hB4.cell 2 rfl
  have p3 := hB4.cell 3 rfl
  have q0 := hC4.cell 0 rfl
  have q1 := hC4.cell 1 rfl
  have q2 := hC4.cell 2 rfl
  have q3 := hC4.cell 3 rfl
  go_cut [36] (fun s36 wc => wc = w4 ∧ ∃ bb : Bool, s36 = .bool bb ∧ Hid (bb = false → xa = -7777777 ∧ xb = -7777777 ∧ xc = -7777777 ∧ xd = -7777777))
  case first =>
    go_wp2_with fail
    all_goals
      go_meet
      first | exact ⟨trivial, true, rfl, fun h => by cases h⟩ | exact ⟨trivial, false, rfl, fun _ => ⟨by assumption, by assumption, by assumption, by assumption⟩⟩ | exact ⟨rfl, true, rfl, fun h => by cases h⟩ | exact ⟨rfl, false, rfl, fun _ => ⟨by assumption, by assumption, by assumption, by assumption⟩⟩
  case rest =>
    obtain ⟨rfl, bb, rfl, HBB⟩ := hcut
    clear q0 q1 q2 q3 hC4
    go_upto_if 36 with fail
    go_cut [36] (fun s36 wc => ∃ m l : Int, PoolR wc A n (upS S i ⟨g + 1, m, l, -7777777, -7777777, -7777777, -7777777⟩) hd t nx fa ∧ Only A.all w wc)
    case first =>
      cases bb
      · go_wp2_with fail
        go_meet
        case rel =>
          obtain ⟨ea, eb, ec, ed⟩ := HBB.out (by first | trivial | rfl)
          refine ⟨(S i).mark, (S i).link, ?_, hO4⟩
          have e : ({ S i with gen := g + 1 } : Sl) = ⟨g + 1, (S i).mark, (S i).link, -7777777, -7777777, -7777777, -7777777⟩ := by
            show (⟨g + 1, (S i).mark, (S i).link, (S i).a, (S i).b, (S i).c, (S i).d⟩ : Sl) = _
            rw [HXA.out.trans ea, HXB.out.trans eb, HXC.out.trans ec, HXD.out.trans ed]
          rw [e] at hP4
          exact hP4
      · go_wp2_with fail
        refine (slot_lays _ _ i _ _ _ _ _ _ _ _ hP4.row (slot_room h2)).mono ?_
        rw [upS_same, upS_upS]
        rintro e w5 ⟨rfl, hR5, hX5⟩
        have hP5 := hP4.slots hR5 hX5
        have hO5 := hO4.trans (hX5.mono (by simp [PA.all]))
        clear hP4 hO4 hR5 hX5 p0 p1 p2 p3
        go_wp2_with fail
        go_meet
        case rel => exact ⟨_, _, hP5, hO5⟩
    case rest =>
      obtain ⟨m, l, hP5, hO5⟩ := hcut
      clear hP4 hO4 p0 p1 p2 p3
      have hc := hP5.row.slot i 1 (by omega) (slot_room h2)
      rw [upS_same] at hc
      go_wp2_with fail
      refine (store_any _ _ _ _ hc (hP5.row.free _)).mono ?_
      rintro e w6 ⟨rfl, hw⟩
      obtain ⟨hP6, hX6⟩ := hP5.marked (i := i) (-7777777) hw
      rw [upS_same, upS_upS] at hP6
      have hO6 := hO5.trans hX6
      clear hP5 hO5 hX6 hw hc
      have hc := hP6.row.slot i 2 (by omega) (slot_room h2)
      rw [upS_same] at hc
      go_wp2_with fail
      refine (store_any _ _ _ _ hc (hP6.row.free _)).mono ?_
      rintro e w7 ⟨rfl, hw⟩
      obtain ⟨hP7, hX7⟩ := hP6.linkd (i := i) (-7777777) hw
      rw [upS_same, upS_upS] at hP7
      have hO7 := hO6.trans hX7
      clear hP6 hO6 hX7 hw hc
      have hp1 : w7.cell? ⟨A.p, 1, none⟩ = some (.pointer (some ⟨A.pb, 0, none⟩)) := hP7.head.cell 1 rfl
      have hPi := hP7.pile
      have HPU := Lib.hid (fun w => rpush A.pb A.nb n i hd t nx w)
      have HPI := Lib.hid (hPi.only (Only.drew [] w7) (by simp) (by simp))
      have HP7 := Lib.hid hP7
      clear hPi hP7
      go_upto_region 13 with fail
      go_cut [6] (fun s6 wc => s6 = .int .i64 0 ∧ PoolR wc A n (upS S i (poisoned (g + 1))) i (t + 1) (nx.set i (hd : Nat)) fa ∧ Only A.all w wc)
      case first =>
        go_region_with (first | (go_at_call 66; refine (hI.out _).mono ?_; rintro e w' ⟨rfl, rfl⟩) | (go_at_call 65; refine (HPU.out w7.drew HPI.out ht ⟨h1, h2⟩).mono ?_; rintro e w8 ⟨rfl, hP8, hX8⟩))
        all_goals (go_wp2_with fail; go_meet)
        all_goals exact ⟨rfl, (HP7.out.piled hP8 ((Only.drew _ w7).trans hX8)).1, hO7.trans (HP7.out.piled hP8 ((Only.drew _ w7).trans hX8)).2⟩
      case rest =>
        obtain ⟨rfl, hP8, hO8⟩ := hcut
        go_wp2_with fail
        go_ret
        exact ⟨rfl, hP8, hO8⟩

set_option maxHeartbeats 1000000 in
theorem rpool_take1 (A : PA) (n i : Nat) (S : Nat → Sl) (hd : Nat) (t : Int) (nx : List Int) (fa a b c d l : Int) (pB xB lB hB : Nat) (w : World) (H : PoolR w A n S hd t nx fa) (h1 : 1 ≤ i) (h2 : i ≤ n) (hg : 0 ≤ (S i).gen ∧ (S i).gen ≤ 1000000000000)
    (hp : Blk w pB #[.pointer (some ⟨A.p, 0, none⟩)] 49) (hx : Blk w xB #[.int .i64 a, .int .i64 b, .int .i64 c, .int .i64 d] 43) (hl : Blk w lB #[.int .i64 l] 3) (hh : Blk w hB #[.int .i64 0] 3)
    (hnA : pB ∉ A.all ∧ xB ∉ A.all ∧ lB ∉ A.all ∧ hB ∉ A.all) (hap : pB ≠ hB ∧ xB ≠ hB ∧ lB ≠ hB) :
    Calls Tryz.prog 57 #[.int .i64 i, .pointer (some ⟨pB, 0, none⟩), .pointer (some ⟨xB, 0, none⟩), .pointer (some ⟨lB, 0, none⟩), .pointer (some ⟨hB, 0, none⟩)] w fun e w' => e = .returned (.tuple #[]) ∧ PoolR w' A n (upS S i ⟨(S i).gen + 1, 0, l, a, b, c, d⟩) hd t nx fa ∧ Blk w' hB #[.int .i64 (wd i ((S i).gen + 1))] 3 ∧ Only (hB :: A.all) w w' := by
  have hm := H.many
  have hil : (i : Int) < (n : Int) + 1 := by omega
  have hp0 := hp.cell 0 rfl
  have hs0 : w.cell? ⟨A.p, 0, none⟩ = some (.slice (some ⟨A.sb, 0, none⟩) (n + 1) (n + 1)) := H.head.cell 0 rfl
  have hx0 := hx.cell 0 rfl
  have hx1 := hx.cell 1 rfl
  have hx2 := hx.cell 2 rfl
  have hx3 := hx.cell 3 rfl
  have hl0 := hl.cell 0 rfl
  obtain ⟨hg0, hg1⟩ := hg
  have hs : (Op.intArith .add .i64 (S i).gen 1).run Tryz.prog w = .ok (.int .i64 ((S i).gen + 1)) w := by
    have : IntKind.i64.wrap ((S i).gen + 1) = (S i).gen + 1 := wraps_i64 _ (by omega) (by omega)
    simp [Op.intArith, this]
  have HS : Hid (∀ w, (Op.intArith .add .i64 (S i).gen 1).run Tryz.prog w = .ok (.int .i64 ((S i).gen + 1)) w) := by
    intro w
    have : IntKind.i64.wrap ((S i).gen + 1) = (S i).gen + 1 := wraps_i64 _ (by omega) (by omega)
    simp [Op.intArith, this]
  have HH := Lib.hid hh
  have HA := Lib.hid hnA
  have HC := Lib.hid hap
  have HP := Lib.hid H
  clear hs hh hnA hap H hp hx hl
  go_enter Tryz.func57, Tryz.ntmps57
  go_wp2_with fail
  refine (slot_lays _ _ i S a b c d 0 l _ HP.out.row (slot_room h2)).mono ?_
  rintro e w1 ⟨rfl, hR, hX⟩
  have hP1 := HP.out.slots hR hX
  have hO1 : Only (hB :: A.all) w w1 := hX.mono (by simp [PA.all])
  have hh1 := HH.out.only hX (by have := HA.out.2.2.2; simp [PA.all] at this; simp [this])
  have hs1 : w1.cell? ⟨A.sb, i * 7, none⟩ = some (.int .i64 (S i).gen) := by
    have := hP1.row.slot i 0 (by omega) (slot_room h2)
    rw [upS_same] at this
    exact this
  have hW := Lib.hid (fun w2 => PoolR.gen (w1 := w2) (i := i) hP1 ((S i).gen + 1))
  have hf1 := hP1.row.free (i * 7)
  clear hR hX HP hp0 hs0 hx0 hx1 hx2 hx3 hl0
  go_wp2_with fail
  refine (add_any _ _ _ _ _ hs1 hf1 (HS.out _)).mono ?_
  rintro e w2 ⟨rfl, hw⟩
  obtain ⟨hP2, hX2⟩ := hW.out w2 hw
  rw [upS_same, upS_upS] at hP2
  have hO2 := hO1.trans (hX2.mono (by intro k hk; simp [hk]))
  have hh2 := hh1.only hX2 HA.out.2.2.2
  clear hW hw hX2 hP1 hO1 hh1 hs1 hf1
  go_wp2_with fail
  refine (word_pack _ _ _ (by omega) (by omega) (by omega) (by omega)).mono ?_
  rintro e w' ⟨rfl, rfl⟩
  have hc2 := hh2.cell 0 rfl
  have hf2 := hh2.free 0
  go_wp2_with fail
  go_end0
  have hX3 : Only [hB] w2 (w2.setCell ⟨hB, 0, none⟩ (.int .i64 (wd i ((S i).gen + 1)))) := Only.setCell _ (by simp) _
  refine ⟨rfl, hP2.only hX3 (by intro k hk; simp; rintro rfl; exact HA.out.2.2.2 hk), ?_, hO2.trans (hX3.mono (by simp))⟩
  have := hh2.set_same 0 (.int .i64 (wd i ((S i).gen + 1)))
  simpa using this

end Go.Proofs.YtpknnamficegbaaGreatDoor

namespace Go.Proofs.YtpknnamficegbaaGreatDoor
open Go.RowKit

theorem PoolR.lt {w : World} {A : PA} {n : Nat} {S : Nat → Sl} {hd : Nat} {t : Int} {nx : List Int} {fa : Int} (H : PoolR w A n S hd t nx fa) : ∀ k, k ∈ A.all → k < w.heap.size := by
  intro k hk
  have hp := H.pile
  have := H.head.lt; have := H.row.lt; have := hp.head.lt; have := hp.row.lt
  simp [PA.all] at hk
  omega

set_option maxHeartbeats 1000000 in
theorem rpool_take (A : PA) (n i k : Nat) (S : Nat → Sl) (t : Int) (nx : List Int) (fa a b c d l : Int) (w : World) (H : PoolR w A n S i t nx fa) (hi1 : 1 ≤ i) (hk : nx.getD i 0 = (k : Nat)) (hg : 0 ≤ (S i).gen ∧ (S i).gen ≤ 1000000000000) (ht : t + 1 ≤ 1000000000000) :
    Calls Tryz.prog 12 #[.pointer (some ⟨A.p, 0, none⟩), .pointer none, .agg #[.int .i64 a, .int .i64 b, .int .i64 c, .int .i64 d], .int .i64 l] w fun e w' => e = .returned (.tuple #[.int .i64 (wd i ((S i).gen + 1)), .int .i64 0]) ∧ PoolR w' A n (upS S i ⟨(S i).gen + 1, 0, l, a, b, c, d⟩) k (t + 1) nx fa ∧ Only A.all w w' := by
  have hmf : ∀ (fn : Fn) (first cap : Array Value) (w : World), (Instr.makeFunc fn first cap).run Tryz.prog w = .ok (.func fn first cap) w := fun _ _ _ _ => rfl
  have hlt := H.lt
  have hm := H.many
  have hir : 1 ≤ i ∧ i ≤ n := ⟨hi1, H.pile.hdr⟩
  have hpA : A.p < w.heap.size := hlt _ (by simp [PA.all])
  have HL := Lib.hid hlt
  have hp1 : ∀ o1 o2 o3 o4 : Obj, ((((w.alloc o1).alloc o2).alloc o3).alloc o4).cell? ⟨A.p, 1, none⟩ = some (.pointer (some ⟨A.pb, 0, none⟩)) := fun o1 o2 o3 o4 => ((((H.head.alloc o1).alloc o2).alloc o3).alloc o4).cell 1 rfl
  have HH := Lib.hid H
  have HG := Lib.hid hg
  clear H hlt hg
  go_enter Tryz.func12, Tryz.ntmps12
  go_wp2_with fail
  refine calls_name (fun w1 => PoolR w1 A n S i t nx fa ∧ Blk w1 w.heap.size #[.pointer (some ⟨A.p, 0, none⟩)] 49 ∧ Blk w1 (w.heap.size + 1) #[.int .i64 a, .int .i64 b, .int .i64 c, .int .i64 d] 43 ∧ Blk w1 (w.heap.size + 2) #[.int .i64 l] 3 ∧ Blk w1 (w.heap.size + 3) #[.int .i64 0] 3 ∧ Only [] w w1) ⟨?_, ?_, ?_, ?_, ?_, ?_⟩ ?_
  · exact HH.out.only ((((Only.alloc [] _ _).trans (Only.alloc [] _ _)).trans (Only.alloc [] _ _)).trans (Only.alloc [] _ _)) (by simp)
  · exact (((Blk.new w _ _).alloc _).alloc _).alloc _
  · have := ((Blk.new (w.alloc (.cells #[.pointer (some ⟨A.p, 0, none⟩)] 49)) #[.int .i64 a, .int .i64 b, .int .i64 c, .int .i64 d] 43).alloc (.cells #[.int .i64 l] 3)).alloc (.cells #[.int .i64 0] 3)
    simpa using this
  · have := (Blk.new ((w.alloc (.cells #[.pointer (some ⟨A.p, 0, none⟩)] 49)).alloc (.cells #[.int .i64 a, .int .i64 b, .int .i64 c, .int .i64 d] 43)) #[.int .i64 l] 3).alloc (.cells #[.int .i64 0] 3)
    simpa using this
  · have := Blk.new (((w.alloc (.cells #[.pointer (some ⟨A.p, 0, none⟩)] 49)).alloc (.cells #[.int .i64 a, .int .i64 b, .int .i64 c, .int .i64 d] 43)).alloc (.cells #[.int .i64 l] 3)) #[.int .i64 0] 3
    simpa using this
  · exact (((Only.alloc [] _ _).trans (Only.alloc [] _ _)).trans (Only.alloc [] _ _)).trans (Only.alloc [] _ _)
  rintro w1 ⟨hP, hb0, hb1, hb2, hb3, hO⟩
  have hPi := hP.pile
  have hn0 : ∀ j, w.heap.size + j ∉ A.all := fun j hj => by have := HL.out _ hj; omega
  refine (rpop A.pb A.nb n i k t nx _ _ _ _ (fun w3 => PoolR w3 A n (upS S i ⟨(S i).gen + 1, 0, l, a, b, c, d⟩) k (t + 1) nx fa ∧ Blk w3 (w.heap.size + 3) #[.int .i64 (wd i ((S i).gen + 1))] 3 ∧ Only ((w.heap.size + 3) :: A.all) w w3) _ hPi hi1 hk ht ?_).mono ?_
  · intro w2 hQ hX
    have hP2 := (hP.piled hQ (hX.mono (by simp))).1
    have hnp : ∀ j, w.heap.size + j ∉ [A.pb] := fun j hj => hn0 j (by simp at hj; simp [PA.all, hj])
    refine (rpool_take1 A n i S k (t + 1) nx fa a b c d l _ _ _ _ _ hP2 hir.1 hir.2 HG.out (hb0.only hX (hnp 0)) (hb1.only hX (hnp 1)) (hb2.only hX (hnp 2)) (hb3.only hX (hnp 3)) ⟨hn0 0, hn0 1, hn0 2, hn0 3⟩ ⟨by omega, by omega, by omega⟩).mono ?_
    rintro e w3 ⟨he, hP3, hh3, hX3⟩
    exact ⟨he, hP3, hh3, ((hO.mono (by simp)).trans (hX.mono (by simp [PA.all]))).trans hX3⟩
  rintro e w3 ⟨rfl, hP3, hh3, hO3⟩
  have hc := hh3.cell 0 rfl
  clear hPi hP hb0 hb1 hb2 hb3 hO hh3 hp1
  go_wp2_with fail
  go_ret2
  exact ⟨rfl, hP3, (Only.refl A.all w).past hO3 (by intro k hk; rcases List.mem_cons.1 hk with rfl | hk; exact Or.inr (by omega); exact Or.inl hk)⟩

set_option maxHeartbeats 1000000 in
theorem rpool_take_full (A : PA) (n : Nat) (S : Nat → Sl) (t : Int) (nx : List Int) (fa a b c d l : Int) (w : World) (H : PoolR w A n S 0 t nx fa) :
    Calls Tryz.prog 12 #[.pointer (some ⟨A.p, 0, none⟩), .pointer none, .agg #[.int .i64 a, .int .i64 b, .int .i64 c, .int .i64 d], .int .i64 l] w fun e w' => e = .returned (.tuple #[.int .i64 0, .int .i64 102]) ∧ Only [] w w' := by
  have hmf : ∀ (fn : Fn) (first cap : Array Value) (w : World), (Instr.makeFunc fn first cap).run Tryz.prog w = .ok (.func fn first cap) w := fun _ _ _ _ => rfl
  have hpA : A.p < w.heap.size := H.lt _ (by simp [PA.all])
  have hp1 : ∀ o1 o2 o3 o4 : Obj, ((((w.alloc o1).alloc o2).alloc o3).alloc o4).cell? ⟨A.p, 1, none⟩ = some (.pointer (some ⟨A.pb, 0, none⟩)) := fun o1 o2 o3 o4 => ((((H.head.alloc o1).alloc o2).alloc o3).alloc o4).cell 1 rfl
  have HH := Lib.hid H
  clear H
  go_enter Tryz.func12, Tryz.ntmps12
  go_wp2_with fail
  have hO := (((Only.alloc [] w (.cells #[.pointer (some ⟨A.p, 0, none⟩)] 49)).trans (Only.alloc [] _ (.cells #[.int .i64 a, .int .i64 b, .int .i64 c, .int .i64 d] 43))).trans (Only.alloc [] _ (.cells #[.int .i64 l] 3))).trans (Only.alloc [] _ (.cells #[.int .i64 0] 3))
  have HO := Lib.hid hO
  clear hO
  refine calls_name (fun w1 => PoolR w1 A n S 0 t nx fa ∧ Only [] w w1) ⟨HH.out.only HO.out (by simp), HO.out⟩ ?_
  rintro w1 ⟨hP, hO⟩
  have hPi := hP.pile
  refine (rpop_none A.pb A.nb n t nx _ _ hPi).mono ?_
  rintro e w' ⟨rfl, rfl⟩
  go_wp2_with fail
  go_ret2
  exact ⟨rfl, hO⟩

end Go.Proofs.YtpknnamficegbaaGreatDoor

