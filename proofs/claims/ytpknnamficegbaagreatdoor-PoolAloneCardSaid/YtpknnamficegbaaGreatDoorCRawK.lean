/- A pile that is linked anyhow: Look as a call. Condition: the pile stands in memory as PileR says. -/
import Derived.Test.YtpknnamficegbaaGreatDoorCRawF
set_option linter.unusedVariables false
set_option linter.unusedSimpArgs false
set_option linter.unusedSectionVars false
set_option linter.unnecessarySimpa false
namespace Go.Proofs.YtpknnamficegbaaGreatDoor
open Go.RowKit

set_option maxRecDepth 100000 in
set_option maxHeartbeats 4000000 in
theorem rpile_look (pb nb n hd : Nat) (t : Int) (nx : List Int) (w : World) (h : PileR w pb nb n hd t nx) :
    Calls Tryz.prog 123 #[.pointer (some ⟨pb, 0, none⟩), .pointer none] w fun e w' => ∃ v, e = .returned v ∧ w'.ownsRow w.heap.size 3 1 v (trail n nx hd).length ((trail n nx hd).map fun x => Value.int .i64 (x : Nat)) ∧ Only [] w w' := by
  have hz := met_zero
  have ht := h.tag
  have hm := h.many
  have hhd := h.hdr
  have hw := wd_range (x := (hd : Int)) (t := t) (by omega) (by omega) ht.1 (by omega)
  have hx := Lib.hid (wd_index (x := (hd : Int)) ht.1 (show t ≤ 1099511627775 by omega))
  have H := Lib.hid h
  have hpl := h.head.lt
  have hnl := h.row.lt
  clear h
  go_enter Tryz.func123, Tryz.ntmps123
  obtain ⟨X, hX⟩ : ∃ X, wd (hd : Int) t = X := ⟨_, rfl⟩
  have HC0 : Hid (∀ W, PileR W pb nb n hd t nx → W.cell? ⟨pb, 0, none⟩ = some (.int .i64 X)) := Lib.hid (fun W h => by rw [← hX]; exact h.head.cell 0 rfl)
  rw [hX] at hw hx
  clear hX
  go_wp2_with fail
  refine wp_loop_rounds 1 ?_
  rw [rounds_succ]
  go_upto_region 3 with fail
  refine wp_name (fun w1 => PileR w1 pb nb n hd t nx ∧ Blk w1 w.heap.size (metV []) 180 ∧ Only [] w w1) ⟨H.out.only (Only.alloc [] _ _) (by simp) (by simp), Blk.new _ _ _, Only.alloc _ _ _⟩ ?_
  rintro w1 ⟨hP, hB, hO⟩
  go_wp2_with fail
  refine (step_nil _).mono ?_
  rintro e w' ⟨rfl, rfl⟩
  have hch := HC0.out _ hP
  go_wp2_with fail
  refine (load_any _ _ _ hch).mono ?_
  rintro e w' ⟨rfl, rfl⟩
  clear hch
  go_wp2_with fail
  refine (word_index _ _ hw.1 hw.2).mono ?_
  rw [hx.out]
  rintro e w' ⟨rfl, rfl⟩
  have hsz1 := hB.lt
  go_wp2_with fail
  go_loopg [5, 8] (n + 1) (fun k s3 s5 wr => ∃ (pre : List Nat) (x : Nat), Tl nx n hd k pre x ∧ s5 = .int .i64 (x : Nat) ∧ wr.ownsRow (w.heap.size + 1) 3 1 s3 pre.length (pre.map fun x => Value.int .i64 (x : Nat)) ∧ Blk wr w.heap.size (metV pre) 180 ∧ Only [] w wr)
  case atStart => exact ⟨[], hd, Tl.start hhd, rfl, World.ownsRow_nil _ _ _ _, hB, hO⟩
  case round =>
    obtain ⟨pre, x, hT, rfl, hown, hM, hOr⟩ := hrel
    clear hB hO hP
    have hPr := H.out.only hOr (by simp) (by simp)
    have HP := Lib.hid hPr
    have HT := Lib.hid hT
    have hx2 := hT.le
    clear hT
    have HIS := Lib.hid (fun i => rpile_is pb nb n hd t nx i _ hPr)
    by_cases hx0 : x = 0
    · subst hx0
      rw [show ((0 : Nat) : Int) = 0 from rfl]
      go_wp2_with fail
      refine (HIS.out 0).mono ?_
      rw [decide_eq_false (by omega)]
      rintro e w' ⟨rfl, rfl⟩
      have hfe := HT.out.stop (Or.inl rfl)
      rw [hfe] at hown
      have HO := Lib.hid hown
      clear hown hfe hPr
      go_wp2_with fail
      refine (step_nil _).mono ?_
      rintro e w' ⟨rfl, rfl⟩
      have hch := HC0.out _ (H.out.only hOr (by simp) (by simp))
      go_wp2_with fail
      refine (load_any _ _ _ hch).mono ?_
      rintro e w' ⟨rfl, rfl⟩
      go_wp2_with fail
      go_ret
      refine ⟨_, rfl, ?_, hOr⟩
      obtain ⟨h1, h2⟩ := HO.out
      refine ⟨h1, ?_⟩
      rcases h2 with h2 | ⟨g, cap, cur, e1, e2, e3⟩
      · exact Or.inl h2
      · exact Or.inr ⟨g, cap, cur, e1, by omega, e3⟩
    have hx1 : 1 ≤ x := by omega
    have hdec : decide (1 ≤ (x : Int) ∧ (x : Int) ≤ n) = true := decide_eq_true (by omega)
    have HDEC := Lib.hid hdec
    clear hdec hPr hx0
    by_cases hin : x ∈ pre
    · have hsame := met_agrees pre x hin
      have hfe := HT.out.stop (Or.inr hin)
      have HFE := Lib.hid hfe
      clear hfe hin
      go_wp2_with fail
      refine (HIS.out x).mono ?_
      rw [HDEC.out]
      rintro e w' ⟨rfl, rfl⟩
      go_wp2_with (refine wpList_load_row rfl 180 _ rfl _ rfl 180 _ (0, 0) _ hM Tryz.underlying180 rfl (by rw [metV_size]; kernel_rfl) ?_)
      refine (met_with pre x (by omega) _).mono ?_
      rintro e w2 ⟨rfl, hX2⟩
      have hM2 := hM.only hX2 (by simp)
      have hO2 := hOr.trans hX2
      have hown2 := ownsRow_only hown hX2 (fun _ _ => by simp)
      clear hM hOr hown hX2
      go_upto_region 8 with (refine wpList_store_row rfl 180 _ _ rfl _ _ rfl rfl 180 _ (Blk.new _ _ _) (by rw [metV_size]; kernel_rfl) (by rw [metV_size, metV_size]) (metV_one _) ?_)
      have hlt2 := hM2.lt
      refine wp_name (fun w3 => Blk w3 w.heap.size (metV pre) 180 ∧ Blk w3 w2.heap.size (metV (pre ++ [x])) 180 ∧ w3.ownsRow (w.heap.size + 1) 3 1 u5 pre.length (pre.map fun x => Value.int .i64 (x : Nat)) ∧ Only [] w w3) ⟨(hM2.alloc _).setRow_other (by omega), (Blk.new w2 (metV []) 180).setRow, ?_, ?_⟩ ?_
      · exact hown2.kept (row := none) ⟨rfl, rfl, rfl, by simp, fun k hk _ => by rw [setRow_other _ _ _ _ (by omega)]; exact Below.heap_alloc _ _ _ hk⟩ (by cases hv : u5.ownBlock <;> simp)
      · exact (hO2.trans (Only.alloc [] _ _)).past (Only.setRow (S := [w2.heap.size]) _ (by simp) _) (by intro k hk; right; simp at hk; have := hO2.size; omega)
      clear hM2 hown2 hO2
      generalize w2.heap.size = nB at *
      clear w2
      rintro w3 ⟨hM3, hN3, hown3, hO3⟩
      rw [HFE.out] at hown3
      have HO := Lib.hid hown3
      clear hown3
      go_upto_region 12 with (first | (refine wpList_load_row rfl 180 (.tmp 9) rfl _ rfl 180 _ (0, 0) _ hN3 Tryz.underlying180 rfl (by rw [metV_size]; kernel_rfl) ?_) | (refine wpList_load_row rfl 180 (.tmp 6) rfl _ rfl 180 _ (0, 0) _ hM3 Tryz.underlying180 rfl (by rw [metV_size]; kernel_rfl) ?_))
      go_wp2_with fail
      refine (step_nil _).mono ?_
      rintro e w' ⟨rfl, rfl⟩
      have hch := HC0.out _ (H.out.only hO3 (by simp) (by simp))
      go_wp2_with fail
      refine (load_any _ _ _ hch).mono ?_
      rintro e w' ⟨rfl, rfl⟩
      go_wp2_with fail
      go_ret
      refine ⟨_, rfl, ?_, hO3⟩
      obtain ⟨h1, h2⟩ := HO.out
      refine ⟨h1, ?_⟩
      rcases h2 with h2 | ⟨g, cap, cur, e1, e2, e3⟩
      · exact Or.inl h2
      · exact Or.inr ⟨g, cap, cur, e1, by omega, e3⟩
    · have hxn : x ∉ pre := hin
      have HXN := Lib.hid hxn
      obtain ⟨y, hy⟩ : ∃ y : Nat, nx.getD x 0 = (y : Nat) := ⟨(nx.getD x 0).toNat, by have := H.out.rng x hx2; omega⟩
      have hyn : y ≤ n := by have := H.out.rng x hx2; omega
      have HNX := Lib.hid (And.intro hy hyn)
      clear hin hxn hy hyn
      go_wp2_with fail
      refine (HIS.out x).mono ?_
      rw [HDEC.out]
      rintro e w' ⟨rfl, rfl⟩
      obtain ⟨i0, hi0, hz0, hz1, hz2⟩ := info_parts info_int
      have hpl1 : pre.length + 1 ≤ 5000 := by
        have h1 := HT.out.few
        omega
      go_wp2_with (refine wpList_load_row rfl 180 _ rfl _ rfl 180 _ (0, 0) _ hM Tryz.underlying180 rfl (by rw [metV_size]; kernel_rfl) ?_)
      refine (met_with pre x (by omega) _).mono ?_
      rintro e w2 ⟨rfl, hX2⟩
      have hM2 := hM.only hX2 (by simp)
      have hO2 := hOr.trans hX2
      have hown2 : w2.ownsRow (w.heap.size + 1) 3 1 u5 pre.length (pre.map fun x => Value.int .i64 (x : Nat)) := hown.kept (row := none) ⟨hX2.os, hX2.tape, hX2.output, hX2.size, fun k hk _ => hX2.block k hk (by simp)⟩ (by cases hv : u5.ownBlock <;> simp)
      clear hM hOr hown hX2
      go_upto_region 8 with (refine wpList_store_row rfl 180 _ _ rfl _ _ rfl rfl 180 _ (Blk.new _ _ _) (by rw [metV_size]; kernel_rfl) (by rw [metV_size, metV_size]) (metV_one _) ?_)
      have hlt2 := hM2.lt
      refine wp_name (fun w3 => Blk w3 w.heap.size (metV pre) 180 ∧ Blk w3 w2.heap.size (metV (pre ++ [x])) 180 ∧ w3.ownsRow (w.heap.size + 1) 3 1 u5 pre.length (pre.map fun x => Value.int .i64 (x : Nat)) ∧ Only [] w w3 ∧ w2.heap.size < w3.heap.size) ⟨(hM2.alloc _).setRow_other (by omega), (Blk.new w2 (metV []) 180).setRow, ?_, ?_, ?_⟩ ?_
      · exact hown2.kept (row := none) ⟨rfl, rfl, rfl, by simp, fun k hk _ => by rw [setRow_other _ _ _ _ (by omega)]; exact Below.heap_alloc _ _ _ hk⟩ (by cases hv : u5.ownBlock <;> simp)
      · exact (hO2.trans (Only.alloc [] _ _)).past (Only.setRow (S := [w2.heap.size]) _ (by simp) _) (by intro k hk; right; simp at hk; have := hO2.size; omega)
      · simp
      have hsz2 := hO2.size
      have hub := fun k hk => hown2.lt k hk
      clear hM2 hown2 hO2
      generalize w2.heap.size = nB at *
      clear w2
      rintro w3 ⟨hM3, hN3, hown3, hO3, hnl3⟩
      have hne := met_differs pre x HXN.out (by omega)
      have HNE := Lib.hid hne
      go_upto_region 9 with (first | (refine wpList_load_row rfl 180 (.tmp 9) rfl _ rfl 180 _ (0, 0) _ hN3 Tryz.underlying180 rfl (by rw [metV_size]; kernel_rfl) ?_) | (refine wpList_load_row rfl 180 (.tmp 6) rfl _ rfl 180 _ (0, 0) _ hM3 Tryz.underlying180 rfl (by rw [metV_size]; kernel_rfl) ?_))
      go_cut [5] (fun s3 wc => wc.ownsRow (w.heap.size + 1) 3 1 s3 (pre.length + 1) ((pre.map fun x => Value.int .i64 (x : Nat)) ++ [Value.int .i64 (x : Nat)]) ∧ Blk wc w.heap.size (metV (pre ++ [x])) 180 ∧ Only [] w wc)
      case first =>
        have hstep : Hid (∀ o w5, (w3.drew.alloc o).grownBy w5 u5.ownBlock → Blk w5 w.heap.size (metV pre) 180 ∧ Blk w5 nB (metV (pre ++ [x])) 180 ∧ Only [] w w5) := by
          intro o w5 hg
          have h0 : some w.heap.size ≠ u5.ownBlock := fun e => by have := (hub _ e.symm).1; omega
          have h1 : some nB ≠ u5.ownBlock := fun e => by have := (hub _ e.symm).2; omega
          refine ⟨?_, ?_, ?_⟩
          · have := hM3.drew.alloc o
            unfold Blk at *
            rw [hg.block _ (by simp; omega) h0]; exact this
          · have := hN3.drew.alloc o
            unfold Blk at *
            rw [hg.block _ (by simp; omega) h1]; exact this
          · exact (hO3.trans (Only.drew [] w3)).appended (World.ownsRow.drew hown3) (by omega) hg
        have hlast : Hid (∀ v' w5, w5.ownsRow (w.heap.size + 1) 3 1 v' (pre.length + 1) ((pre.map fun x => Value.int .i64 (x : Nat)) ++ [Value.int .i64 (x : Nat)]) → Blk w5 w.heap.size (metV pre) 180 → Only [] w w5 →
            (w5.setRow w.heap.size (metV (pre ++ [x]))).ownsRow (w.heap.size + 1) 3 1 v' (pre.length + 1) ((pre.map fun x => Value.int .i64 (x : Nat)) ++ [Value.int .i64 (x : Nat)]) ∧ Blk (w5.setRow w.heap.size (metV (pre ++ [x]))) w.heap.size (metV (pre ++ [x])) 180 ∧ Only [] w (w5.setRow w.heap.size (metV (pre ++ [x])))) := by
          intro v' w5 h1 h2 h3
          refine ⟨h1.kept (row := some w.heap.size) ⟨rfl, rfl, rfl, by simp, fun k _ hn => setRow_other _ _ _ _ (fun e => hn (by rw [e]))⟩ ?_, h2.setRow, h3.past (Only.setRow (S := [w.heap.size]) _ (by simp) _) (by simp)⟩
          cases hv : v'.ownBlock with
          | none => exact Or.inl rfl
          | some k => exact Or.inr (fun e => by have := (h1.lt k hv).1; simp at e; omega)
        have hsz3 : w3.heap.size = w3.drew.heap.size := rfl
        have HNE2 := HNE
        clear hne hsz3 HNE2
        refine wp_region_any (by kernel_rfl) ?_
        change wpAny _ _ _ _ _ _ _ (World.drew _)
        refine wpAny_take (i := 1) (v := u5) rfl (by kernel_rfl) (by kernel_rfl) (by kernel_rfl) (fun _ _ _ h => h) (Or.inl ⟨by rfl, ?_⟩) ?_
        · intro w
          go_simp
        refine wpAny_take (i := 2) (v := .int .i64 (x : Nat)) rfl (by kernel_rfl) (by kernel_rfl) (by kernel_rfl) (fun _ _ _ h => h) (Or.inl ⟨by rfl, ?_⟩) ?_
        · intro w
          go_simp
        refine wpAny_ready (rs := [0, 3]) (by kernel_rfl) (by simp) ?_
        refine AllReady.cons rfl (fun K hK => ?_) (AllReady.cons rfl (fun K hK => ?_) AllReady.nil)
        · rw [if_pos (by rfl)]
          refine wp_load_row 180 (.tmp 9) rfl nB rfl 180 _ (0, 0) _ (show Blk w3.drew nB (metV (pre ++ [x])) 180 from hN3) Tryz.underlying180 rfl (by rw [metV_size]; kernel_rfl) ?_
          refine hK _ _ ?_
          clear hK K
          refine wpAny_ready (rs := [3]) (by kernel_rfl) (by simp) ?_
          refine AllReady.cons rfl (fun K hK => ?_) AllReady.nil
          go_simp
          refine hK _ _ ?_
          clear hK K
          refine wpAny_ready (rs := [4]) (by kernel_rfl) (by simp) ?_
          refine AllReady.cons rfl (fun K hK => ?_) AllReady.nil
          rw [if_pos (by rfl)]
          refine wp_append_own _ (.tmp 28) (.tmp 30) 29 rfl (w.heap.size + 1) 3 i0 (.int .i64 0) 1 8 Tryz.underlying29 hi0 hz0 hz1 hz2 rfl (by decide) _ _ _ rfl ((World.ownsRow.drew hown3).alloc _) ⟨w3.heap.size, 0, none⟩ 1 1 [.int .i64 (x : Nat)] rfl rfl (cell_one_new _ _ _) (fun u hu => by simp at hu; subst hu; rfl) (by unfold maxLen; omega) (by omega) (by simp; omega) ?_
          intro v' w5 hown5 hg5 _
          obtain ⟨hM5, hN5, hO5⟩ := hstep.out _ w5 hg5
          refine hK _ _ ?_
          clear hK K hg5
          refine wpAny_ready (rs := [5]) (by kernel_rfl) (by simp) ?_
          refine AllReady.cons rfl (fun K hK => ?_) AllReady.nil
          rw [if_pos (by rfl)]
          refine wp_store_row 180 (.tmp 6) (.tmp 27) rfl w.heap.size (metV (pre ++ [x])) rfl rfl 180 _ hM5 (by rw [metV_size]; kernel_rfl) (by rw [metV_size, metV_size]) (metV_one _) ?_
          refine hK _ _ ?_
          clear hK K
          refine wpAny_ready (rs := [6]) (by kernel_rfl) (by simp) ?_
          refine AllReady.cons rfl (fun K hK => ?_) AllReady.nil
          go_simp
          refine hK _ _ ?_
          clear hK K
          refine wpAny_done (by kernel_rfl) ?_ _
          have hL := hlast.out v' w5 hown5 hM5 hO5
          generalize w5.setRow w.heap.size (metV (pre ++ [x])) = w6 at hL ⊢
          go_wp2_with fail
          go_meet
          case rel => exact hL
        · go_simp
          refine hK _ _ ?_
          clear hK K
          refine wpAny_ready (rs := [0, 4]) (by kernel_rfl) (by simp) ?_
          refine AllReady.cons rfl (fun K hK => ?_) (AllReady.cons rfl (fun K hK => ?_) AllReady.nil)
          · rw [if_pos (by rfl)]
            refine wp_load_row 180 (.tmp 9) rfl nB rfl 180 _ (0, 0) _ (show Blk (w3.drew.alloc _) nB (metV (pre ++ [x])) 180 from hN3.drew.alloc _) Tryz.underlying180 rfl (by rw [metV_size]; kernel_rfl) ?_
            refine hK _ _ ?_
            clear hK K
            refine wpAny_ready (rs := [4]) (by kernel_rfl) (by simp) ?_
            refine AllReady.cons rfl (fun K hK => ?_) AllReady.nil
            rw [if_pos (by rfl)]
            refine wp_append_own _ (.tmp 28) (.tmp 30) 29 rfl (w.heap.size + 1) 3 i0 (.int .i64 0) 1 8 Tryz.underlying29 hi0 hz0 hz1 hz2 rfl (by decide) _ _ _ rfl ((World.ownsRow.drew hown3).alloc _) ⟨w3.heap.size, 0, none⟩ 1 1 [.int .i64 (x : Nat)] rfl rfl (cell_one_new _ _ _) (fun u hu => by simp at hu; subst hu; rfl) (by unfold maxLen; omega) (by omega) (by simp; omega) ?_
            intro v' w5 hown5 hg5 _
            obtain ⟨hM5, hN5, hO5⟩ := hstep.out _ w5 hg5
            refine hK _ _ ?_
            clear hK K hg5
            refine wpAny_ready (rs := [5]) (by kernel_rfl) (by simp) ?_
            refine AllReady.cons rfl (fun K hK => ?_) AllReady.nil
            rw [if_pos (by rfl)]
            refine wp_store_row 180 (.tmp 6) (.tmp 27) rfl w.heap.size (metV (pre ++ [x])) rfl rfl 180 _ hM5 (by rw [metV_size]; kernel_rfl) (by rw [metV_size, metV_size]) (metV_one _) ?_
            refine hK _ _ ?_
            clear hK K
            refine wpAny_ready (rs := [6]) (by kernel_rfl) (by simp) ?_
            refine AllReady.cons rfl (fun K hK => ?_) AllReady.nil
            go_simp
            refine hK _ _ ?_
            clear hK K
            refine wpAny_done (by kernel_rfl) ?_ _
            have hL := hlast.out v' w5 hown5 hM5 hO5
            generalize w5.setRow w.heap.size (metV (pre ++ [x])) = w6 at hL ⊢
            go_wp2_with fail
            go_meet
            case rel => exact hL
          · rw [if_pos (by rfl)]
            refine wp_append_own _ (.tmp 28) (.tmp 30) 29 rfl (w.heap.size + 1) 3 i0 (.int .i64 0) 1 8 Tryz.underlying29 hi0 hz0 hz1 hz2 rfl (by decide) _ _ _ rfl ((World.ownsRow.drew hown3).alloc _) ⟨w3.heap.size, 0, none⟩ 1 1 [.int .i64 (x : Nat)] rfl rfl (cell_one_new _ _ _) (fun u hu => by simp at hu; subst hu; rfl) (by unfold maxLen; omega) (by omega) (by simp; omega) ?_
            intro v' w5 hown5 hg5 _
            obtain ⟨hM5, hN5, hO5⟩ := hstep.out _ w5 hg5
            refine hK _ _ ?_
            clear hK K hg5
            refine wpAny_ready (rs := [0]) (by kernel_rfl) (by simp) ?_
            refine AllReady.cons rfl (fun K hK => ?_) AllReady.nil
            rw [if_pos (by rfl)]
            refine wp_load_row 180 (.tmp 9) rfl nB rfl 180 _ (0, 0) _ (hN5) Tryz.underlying180 rfl (by rw [metV_size]; kernel_rfl) ?_
            refine hK _ _ ?_
            clear hK K
            refine wpAny_ready (rs := [5]) (by kernel_rfl) (by simp) ?_
            refine AllReady.cons rfl (fun K hK => ?_) AllReady.nil
            rw [if_pos (by rfl)]
            refine wp_store_row 180 (.tmp 6) (.tmp 27) rfl w.heap.size (metV (pre ++ [x])) rfl rfl 180 _ hM5 (by rw [metV_size]; kernel_rfl) (by rw [metV_size, metV_size]) (metV_one _) ?_
            refine hK _ _ ?_
            clear hK K
            refine wpAny_ready (rs := [6]) (by kernel_rfl) (by simp) ?_
            refine AllReady.cons rfl (fun K hK => ?_) AllReady.nil
            go_simp
            refine hK _ _ ?_
            clear hK K
            refine wpAny_done (by kernel_rfl) ?_ _
            have hL := hlast.out v' w5 hown5 hM5 hO5
            generalize w5.setRow w.heap.size (metV (pre ++ [x])) = w6 at hL ⊢
            go_wp2_with fail
            go_meet
            case rel => exact hL
      case rest =>
        obtain ⟨hownc, hMc, hOc⟩ := hcut
        have hPc := H.out.only hOc (by simp) (by simp)
        have hsl : wc.cell? ⟨pb, 1, none⟩ = some (.slice (some ⟨nb, 0, none⟩) (n + 1) (n + 1)) := hPc.head.cell 1 rfl
        have hnx := hPc.at (i := x) (by omega)
        rw [HNX.out.1] at hnx
        have hxi : (x : Int) < (n : Int) + 1 := by omega
        have HOW := Lib.hid hownc
        clear hownc hPc
        go_wp2_with fail
        refine (step_nil _).mono ?_
        rintro e w' ⟨rfl, rfl⟩
        go_wp2_with fail
        refine (load_any _ _ _ hnx).mono ?_
        rintro e w' ⟨rfl, rfl⟩
        obtain ⟨q, hq, hTq⟩ := HT.out.step (by omega) HXN.out HNX.out.1 HNX.out.2
        have HTQ := Lib.hid (And.intro hq hTq)
        clear hq hTq
        go_wp2_with fail
        go_roundg q
        case measure => have := HTQ.out.1; omega
        case rel => exact ⟨pre ++ [x], y, HTQ.out.2, rfl, by rw [List.length_append, List.map_append]; exact HOW.out, hMc, hOc⟩

end Go.Proofs.YtpknnamficegbaaGreatDoor

