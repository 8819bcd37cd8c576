/- A pile's Places as a call: the free places from the top on. Condition: the pile stands in memory as PileAt says. -/
import Derived.RegionTactic
import Derived.Deep.CutBlock
import Derived.Test.YtpknnamficegbaaGreatDoorCPoolY
set_option linter.unusedVariables false
set_option linter.unusedSimpArgs false
set_option linter.unusedSectionVars false
set_option linter.unnecessarySimpa false
namespace Go.Proofs.YtpknnamficegbaaGreatDoor
open Go.RowKit

theorem info_int : (Tryz.prog.info? 3).map (fun i => (i.zero, i.size, i.bytes)) = some (some (.int .i64 0), 1, 8) := by kernel_rfl

set_option maxHeartbeats 400000 in
theorem pile_head (pb nb n : Nat) (t : Int) (fs : List Nat) (nx : List Int) (w : World) (h : PileAt w pb nb n t fs nx) :
    Calls Tryz.prog 125 #[.pointer (some ⟨pb, 0, none⟩)] w fun e w' => e = .returned (.int .i64 (wd (top fs) t)) ∧ w = w' := by
  have hc := h.head.cell 0 rfl
  generalize wd (top fs) t = X at hc ⊢
  go_enter Tryz.func125, Tryz.ntmps125
  go_wp2_with fail
  refine (load_any _ X _ hc).mono ?_
  rintro e w' ⟨rfl, rfl⟩
  go_wp2_with fail
  go_ret
  exact ⟨rfl, rfl⟩

theorem nodup_length : ∀ (n : Nat) (l : List Nat), l.Nodup → (∀ x, x ∈ l → 1 ≤ x ∧ x ≤ n) → l.length ≤ n := by
  intro n
  induction n with
  | zero =>
    intro l _ h
    cases l with
    | nil => simp
    | cons a r => have := h a (by simp); omega
  | succ n ih =>
    intro l hd h
    by_cases hm : n + 1 ∈ l
    · have h1 := ih (l.erase (n + 1)) (hd.erase _) (by
        intro x hx
        have h2 := h x (List.mem_of_mem_erase hx)
        have h3 : x ≠ n + 1 := fun e => by
          rw [e, List.Nodup.mem_erase_iff hd] at hx
          exact hx.1 rfl
        omega)
      rw [List.length_erase_of_mem hm] at h1
      omega
    · have h1 := ih l hd (by
        intro x hx
        have h2 := h x hx
        have h3 : x ≠ n + 1 := fun e => hm (e ▸ hx)
        omega)
      omega

theorem Linked.mid {nx : List Int} {a : Nat} {r : List Nat} : ∀ {pre : List Nat}, Linked nx (pre ++ a :: r) → nx.getD a 0 = top r
  | [], h => h.1
  | _ :: _, h => Linked.mid h.2

set_option maxRecDepth 100000 in
set_option maxHeartbeats 1600000 in
theorem pile_places (pb nb n : Nat) (t : Int) (fs : List Nat) (nx : List Int) (w : World) (h : PileAt w pb nb n t fs nx) :
    Calls Tryz.prog 89 #[.pointer (some ⟨pb, 0, none⟩)] w fun e w' => ∃ v, e = .returned v ∧ w'.ownsRow w.heap.size 3 1 v fs.length (fs.map fun x => Value.int .i64 (x : Nat)) ∧ Only [] w w' := by
  have hz := met_zero
  have ht := h.tag
  have hm := h.many
  have htr := top_range (fs := fs) (n := n) h.range
  have hw := wd_range (x := top fs) (t := t) htr.1 (by omega) ht.1 (by omega)
  have hx := Lib.hid (wd_index (x := top fs) ht.1 (show t ≤ 1099511627775 by omega))
  have H := Lib.hid h
  have hpl := h.head.lt
  have hnl := h.row.lt
  have hpb : ∀ o, (w.alloc o).heap.size = w.heap.size + 1 := by intro o; simp
  clear hpb h
  go_enter Tryz.func89, Tryz.ntmps89
  go_wp2_with fail
  refine calls_name (fun w1 => PileAt w1 pb nb n t fs nx ∧ Blk w1 w.heap.size (metV []) 180 ∧ Only [] w w1) ⟨H.out.only (Only.alloc [] _ _) (by simp) (by simp), Blk.new _ _ _, Only.alloc _ _ _⟩ ?_
  rintro w1 ⟨hP, hB, hO⟩
  refine (pile_head pb nb n t fs nx _ hP).mono ?_
  rintro e w' ⟨rfl, rfl⟩
  generalize hX : wd (top fs) t = X at *
  have HX := Lib.hid hX
  clear hX
  go_wp2_with fail
  refine (word_index _ _ hw.1 hw.2).mono ?_
  rw [hx.out]
  rintro e w' ⟨rfl, rfl⟩
  have hsz1 := hB.lt
  go_wp2_with fail
  go_loopg [3, 5] fs.length (fun k s3 s5 wr => ∃ pre suf : List Nat, fs = pre ++ suf ∧ suf.length = k ∧ s5 = .int .i64 (top suf) ∧ wr.ownsRow (w.heap.size + 1) 3 1 s3 pre.length (pre.map fun x => Value.int .i64 (x : Nat)) ∧ Blk wr w.heap.size (metV pre) 180 ∧ Only [] w wr)
  case atStart => exact ⟨[], fs, rfl, rfl, rfl, World.ownsRow_nil _ _ _ _, hB, hO⟩
  case round =>
    obtain ⟨pre, suf, hfs, hlen, rfl, hown, hM, hOr⟩ := hrel
    clear hB hO hP
    have hPr := H.out.only hOr (by simp) (by simp)
    have HP := Lib.hid hPr
    have HFS := Lib.hid hfs
    have HLEN := Lib.hid hlen
    clear hfs hlen
    have HIS := Lib.hid (fun i => pile_is pb nb n t fs nx i _ hPr)
    cases suf with
    | nil =>
      rw [show top [] = 0 from rfl]
      go_wp2_with fail
      refine (HIS.out 0).mono ?_
      rw [decide_eq_false (by omega)]
      rintro e w' ⟨rfl, rfl⟩
      have hfe : pre = fs := by rw [HFS.out]; simp
      rw [hfe] at hown
      have HO := Lib.hid hown
      clear hown hfe hPr
      go_wp2_with fail
      go_ret
      refine ⟨_, rfl, ?_, hOr⟩
      obtain ⟨h1, h2⟩ := HO.out
      refine ⟨h1, ?_⟩
      rcases h2 with h2 | ⟨g, cap, cur, e1, e2, e3⟩
      · exact Or.inl h2
      · exact Or.inr ⟨g, cap, cur, e1, by omega, e3⟩
    | cons x suf =>
      have hxr := (H.out.range x (by rw [HFS.out]; simp))
      have hxn : x ∉ pre := by
        have := H.out.once
        rw [HFS.out, List.nodup_append] at this
        intro hm
        exact (this.2.2 x hm x (by simp)) rfl
      have hnext := Linked.mid (pre := pre) (a := x) (r := suf) (by rw [← HFS.out]; exact H.out.links)
      have HNX := Lib.hid hnext
      have HXN := Lib.hid hxn
      clear hnext hxn
      obtain ⟨hx1, hx2⟩ := hxr
      have hdec : decide (1 ≤ (x : Int) ∧ (x : Int) ≤ n) = true := decide_eq_true (by omega)
      have HDEC := Lib.hid hdec
      clear hdec hPr
      rw [show top (x :: suf) = (x : Int) from rfl]
      go_wp2_with fail
      refine (HIS.out x).mono ?_
      rw [HDEC.out]
      rintro e w' ⟨rfl, rfl⟩
      obtain ⟨i0, hi0, hz0, hz1, hz2⟩ := info_parts info_int
      have hpl1 : pre.length + 1 ≤ 5000 := by
        have h1 := nodup_length n fs H.out.once H.out.range
        rw [HFS.out, List.length_append, List.length_cons] at h1
        omega
      go_upto_block 1 with fail
      go_cut [3] (fun s3 wc => wc.ownsRow (w.heap.size + 1) 3 1 s3 (pre.length + 1) ((pre.map fun x => Value.int .i64 (x : Nat)) ++ [Value.int .i64 (x : Nat)]) ∧ Blk wc w.heap.size (metV (pre ++ [x])) 180 ∧ Only [] w wc)
      case first =>
        go_wp2_with (refine wpList_load_row rfl 180 _ rfl _ rfl 180 _ (0, 0) _ hM Tryz.underlying180 rfl (by rw [metV_size]; kernel_rfl) ?_)
        refine (met_with pre x (by omega) _).mono ?_
        rintro e w2 ⟨rfl, hX2⟩
        have hM2 := hM.only hX2 (by simp)
        have hO2 := hOr.trans hX2
        have hown2 : w2.ownsRow (w.heap.size + 1) 3 1 u3 pre.length (pre.map fun x => Value.int .i64 (x : Nat)) := hown.kept (row := none) ⟨hX2.os, hX2.tape, hX2.output, hX2.size, fun k hk _ => hX2.block k hk (by simp)⟩ (by cases hv : u3.ownBlock <;> simp)
        clear hM hOr hown hX2
        go_upto_region 7 with (refine wpList_store_row rfl 180 _ _ rfl _ _ rfl rfl 180 _ (Blk.new _ _ _) (by rw [metV_size]; kernel_rfl) (by rw [metV_size, metV_size]) (metV_one _) ?_)
        have hlt2 := hM2.lt
        refine wp_name (fun w3 => Blk w3 w.heap.size (metV pre) 180 ∧ Blk w3 w2.heap.size (metV (pre ++ [x])) 180 ∧ w3.ownsRow (w.heap.size + 1) 3 1 u3 pre.length (pre.map fun x => Value.int .i64 (x : Nat)) ∧ Only [] w w3 ∧ w2.heap.size < w3.heap.size) ⟨(hM2.alloc _).setRow_other (by omega), (Blk.new w2 (metV []) 180).setRow, ?_, ?_, ?_⟩ ?_
        · exact hown2.kept (row := none) ⟨rfl, rfl, rfl, by simp, fun k hk _ => by rw [setRow_other _ _ _ _ (by omega)]; exact Below.heap_alloc _ _ _ hk⟩ (by cases hv : u3.ownBlock <;> simp)
        · exact (hO2.trans (Only.alloc [] _ _)).past (Only.setRow (S := [w2.heap.size]) _ (by simp) _) (by intro k hk; right; simp at hk; have := hO2.size; omega)
        · simp
        have hsz2 := hO2.size
        have hub := fun k hk => hown2.lt k hk
        clear hM2 hown2 hO2
        generalize w2.heap.size = nB at *
        clear w2
        rintro w3 ⟨hM3, hN3, hown3, hO3, hnl3⟩
        have hne := met_differs pre x HXN.out (by omega)
        have HNE := Lib.hid hne
        go_upto_region 8 with (first | (refine wpList_load_row rfl 180 (.tmp 6) rfl _ rfl 180 _ (0, 0) _ hN3 Tryz.underlying180 rfl (by rw [metV_size]; kernel_rfl) ?_) | (refine wpList_load_row rfl 180 (.tmp 4) rfl _ rfl 180 _ (0, 0) _ hM3 Tryz.underlying180 rfl (by rw [metV_size]; kernel_rfl) ?_))
        have hstep : Hid (∀ o w5, (w3.drew.alloc o).grownBy w5 u3.ownBlock → Blk w5 w.heap.size (metV pre) 180 ∧ Blk w5 nB (metV (pre ++ [x])) 180 ∧ Only [] w w5) := by
          intro o w5 hg
          have h0 : some w.heap.size ≠ u3.ownBlock := fun e => by have := (hub _ e.symm).1; omega
          have h1 : some nB ≠ u3.ownBlock := fun e => by have := (hub _ e.symm).2; omega
          refine ⟨?_, ?_, ?_⟩
          · have := hM3.drew.alloc o
            unfold Blk at *
            rw [hg.block _ (by simp; omega) h0]; exact this
          · have := hN3.drew.alloc o
            unfold Blk at *
            rw [hg.block _ (by simp; omega) h1]; exact this
          · exact (hO3.trans (Only.drew [] w3)).appended (World.ownsRow.drew hown3) (by omega) hg
        have hlast : Hid (∀ v' w5, w5.ownsRow (w.heap.size + 1) 3 1 v' (pre.length + 1) ((pre.map fun x => Value.int .i64 (x : Nat)) ++ [Value.int .i64 (x : Nat)]) → Blk w5 w.heap.size (metV pre) 180 → Only [] w w5 →
            (w5.setRow w.heap.size (metV (pre ++ [x]))).ownsRow (w.heap.size + 1) 3 1 v' (pre.length + 1) ((pre.map fun x => Value.int .i64 (x : Nat)) ++ [Value.int .i64 (x : Nat)]) ∧ Blk (w5.setRow w.heap.size (metV (pre ++ [x]))) w.heap.size (metV (pre ++ [x])) 180 ∧ Only [] w (w5.setRow w.heap.size (metV (pre ++ [x])))) := by
          intro v' w5 h1 h2 h3
          refine ⟨h1.kept (row := some w.heap.size) ⟨rfl, rfl, rfl, by simp, fun k _ hn => setRow_other _ _ _ _ (fun e => hn (by rw [e]))⟩ ?_, h2.setRow, h3.past (Only.setRow (S := [w.heap.size]) _ (by simp) _) (by simp)⟩
          cases hv : v'.ownBlock with
          | none => exact Or.inl rfl
          | some k => exact Or.inr (fun e => by have := (h1.lt k hv).1; simp at e; omega)
        have hsz3 : w3.heap.size = w3.drew.heap.size := rfl
        have HNE2 := HNE
        clear hne hsz3 HNE2
        refine wp_region_any (by kernel_rfl) ?_
        change wpAny _ _ _ _ _ _ _ (World.drew _)
        refine wpAny_take (i := 1) (v := u3) rfl (by kernel_rfl) (by kernel_rfl) (by kernel_rfl) (fun _ _ _ h => h) (Or.inl ⟨by rfl, ?_⟩) ?_
        · intro w
          go_simp
        refine wpAny_take (i := 2) (v := .int .i64 (x : Nat)) rfl (by kernel_rfl) (by kernel_rfl) (by kernel_rfl) (fun _ _ _ h => h) (Or.inl ⟨by rfl, ?_⟩) ?_
        · intro w
          go_simp
        refine wpAny_ready (rs := [0, 3]) (by kernel_rfl) (by simp) ?_
        refine AllReady.cons rfl (fun K hK => ?_) (AllReady.cons rfl (fun K hK => ?_) AllReady.nil)
        · rw [if_pos (by rfl)]
          refine wp_load_row 180 (.tmp 6) rfl nB rfl 180 _ (0, 0) _ (show Blk w3.drew nB (metV (pre ++ [x])) 180 from hN3) Tryz.underlying180 rfl (by rw [metV_size]; kernel_rfl) ?_
          refine hK _ _ ?_
          clear hK K
          refine wpAny_ready (rs := [3]) (by kernel_rfl) (by simp) ?_
          refine AllReady.cons rfl (fun K hK => ?_) AllReady.nil
          go_simp
          refine hK _ _ ?_
          clear hK K
          refine wpAny_ready (rs := [4]) (by kernel_rfl) (by simp) ?_
          refine AllReady.cons rfl (fun K hK => ?_) AllReady.nil
          rw [if_pos (by rfl)]
          refine wp_append_own _ (.tmp 27) (.tmp 29) 29 rfl (w.heap.size + 1) 3 i0 (.int .i64 0) 1 8 Tryz.underlying29 hi0 hz0 hz1 hz2 rfl (by decide) _ _ _ rfl ((World.ownsRow.drew hown3).alloc _) ⟨w3.heap.size, 0, none⟩ 1 1 [.int .i64 (x : Nat)] rfl rfl (cell_one_new _ _ _) (fun u hu => by simp at hu; subst hu; rfl) (by unfold maxLen; omega) (by omega) (by simp; omega) ?_
          intro v' w5 hown5 hg5 _
          obtain ⟨hM5, hN5, hO5⟩ := hstep.out _ w5 hg5
          refine hK _ _ ?_
          clear hK K hg5
          refine wpAny_ready (rs := [5]) (by kernel_rfl) (by simp) ?_
          refine AllReady.cons rfl (fun K hK => ?_) AllReady.nil
          rw [if_pos (by rfl)]
          refine wp_store_row 180 (.tmp 4) (.tmp 26) rfl w.heap.size (metV (pre ++ [x])) rfl rfl 180 _ hM5 (by rw [metV_size]; kernel_rfl) (by rw [metV_size, metV_size]) (metV_one _) ?_
          refine hK _ _ ?_
          clear hK K
          refine wpAny_ready (rs := [6]) (by kernel_rfl) (by simp) ?_
          refine AllReady.cons rfl (fun K hK => ?_) AllReady.nil
          go_simp
          refine hK _ _ ?_
          clear hK K
          refine wpAny_done (by kernel_rfl) ?_ _
          have hL := hlast.out v' w5 hown5 hM5 hO5
          generalize w5.setRow w.heap.size (metV (pre ++ [x])) = w6 at hL ⊢
          go_wp2_with fail
          go_meet
          case rel => exact hL
        · go_simp
          refine hK _ _ ?_
          clear hK K
          refine wpAny_ready (rs := [0, 4]) (by kernel_rfl) (by simp) ?_
          refine AllReady.cons rfl (fun K hK => ?_) (AllReady.cons rfl (fun K hK => ?_) AllReady.nil)
          · rw [if_pos (by rfl)]
            refine wp_load_row 180 (.tmp 6) rfl nB rfl 180 _ (0, 0) _ (show Blk (w3.drew.alloc _) nB (metV (pre ++ [x])) 180 from hN3.drew.alloc _) Tryz.underlying180 rfl (by rw [metV_size]; kernel_rfl) ?_
            refine hK _ _ ?_
            clear hK K
            refine wpAny_ready (rs := [4]) (by kernel_rfl) (by simp) ?_
            refine AllReady.cons rfl (fun K hK => ?_) AllReady.nil
            rw [if_pos (by rfl)]
            refine wp_append_own _ (.tmp 27) (.tmp 29) 29 rfl (w.heap.size + 1) 3 i0 (.int .i64 0) 1 8 Tryz.underlying29 hi0 hz0 hz1 hz2 rfl (by decide) _ _ _ rfl ((World.ownsRow.drew hown3).alloc _) ⟨w3.heap.size, 0, none⟩ 1 1 [.int .i64 (x : Nat)] rfl rfl (cell_one_new _ _ _) (fun u hu => by simp at hu; subst hu; rfl) (by unfold maxLen; omega) (by omega) (by simp; omega) ?_
            intro v' w5 hown5 hg5 _
            obtain ⟨hM5, hN5, hO5⟩ := hstep.out _ w5 hg5
            refine hK _ _ ?_
            clear hK K hg5
            refine wpAny_ready (rs := [5]) (by kernel_rfl) (by simp) ?_
            refine AllReady.cons rfl (fun K hK => ?_) AllReady.nil
            rw [if_pos (by rfl)]
            refine wp_store_row 180 (.tmp 4) (.tmp 26) rfl w.heap.size (metV (pre ++ [x])) rfl rfl 180 _ hM5 (by rw [metV_size]; kernel_rfl) (by rw [metV_size, metV_size]) (metV_one _) ?_
            refine hK _ _ ?_
            clear hK K
            refine wpAny_ready (rs := [6]) (by kernel_rfl) (by simp) ?_
            refine AllReady.cons rfl (fun K hK => ?_) AllReady.nil
            go_simp
            refine hK _ _ ?_
            clear hK K
            refine wpAny_done (by kernel_rfl) ?_ _
            have hL := hlast.out v' w5 hown5 hM5 hO5
            generalize w5.setRow w.heap.size (metV (pre ++ [x])) = w6 at hL ⊢
            go_wp2_with fail
            go_meet
            case rel => exact hL
          · rw [if_pos (by rfl)]
            refine wp_append_own _ (.tmp 27) (.tmp 29) 29 rfl (w.heap.size + 1) 3 i0 (.int .i64 0) 1 8 Tryz.underlying29 hi0 hz0 hz1 hz2 rfl (by decide) _ _ _ rfl ((World.ownsRow.drew hown3).alloc _) ⟨w3.heap.size, 0, none⟩ 1 1 [.int .i64 (x : Nat)] rfl rfl (cell_one_new _ _ _) (fun u hu => by simp at hu; subst hu; rfl) (by unfold maxLen; omega) (by omega) (by simp; omega) ?_
            intro v' w5 hown5 hg5 _
            obtain ⟨hM5, hN5, hO5⟩ := hstep.out _ w5 hg5
            refine hK _ _ ?_
            clear hK K hg5
            refine wpAny_ready (rs := [0]) (by kernel_rfl) (by simp) ?_
            refine AllReady.cons rfl (fun K hK => ?_) AllReady.nil
            rw [if_pos (by rfl)]
            refine wp_load_row 180 (.tmp 6) rfl nB rfl 180 _ (0, 0) _ (hN5) Tryz.underlying180 rfl (by rw [metV_size]; kernel_rfl) ?_
            refine hK _ _ ?_
            clear hK K
            refine wpAny_ready (rs := [5]) (by kernel_rfl) (by simp) ?_
            refine AllReady.cons rfl (fun K hK => ?_) AllReady.nil
            rw [if_pos (by rfl)]
            refine wp_store_row 180 (.tmp 4) (.tmp 26) rfl w.heap.size (metV (pre ++ [x])) rfl rfl 180 _ hM5 (by rw [metV_size]; kernel_rfl) (by rw [metV_size, metV_size]) (metV_one _) ?_
            refine hK _ _ ?_
            clear hK K
            refine wpAny_ready (rs := [6]) (by kernel_rfl) (by simp) ?_
            refine AllReady.cons rfl (fun K hK => ?_) AllReady.nil
            go_simp
            refine hK _ _ ?_
            clear hK K
            refine wpAny_done (by kernel_rfl) ?_ _
            have hL := hlast.out v' w5 hown5 hM5 hO5
            generalize w5.setRow w.heap.size (metV (pre ++ [x])) = w6 at hL ⊢
            go_wp2_with fail
            go_meet
            case rel => exact hL
      case rest =>
        obtain ⟨hownc, hMc, hOc⟩ := hcut
        have hPc := H.out.only hOc (by simp) (by simp)
        have hsl : wc.cell? ⟨pb, 1, none⟩ = some (.slice (some ⟨nb, 0, none⟩) (n + 1) (n + 1)) := hPc.head.cell 1 rfl
        have hnx := hPc.at (i := x) (by omega)
        rw [HNX.out] at hnx
        have hxi : (x : Int) < (n : Int) + 1 := by omega
        have HOW := Lib.hid hownc
        clear hownc hPc hM hOr hown
        go_wp2_with fail
        refine (load_any _ _ _ hnx).mono ?_
        rintro e w' ⟨rfl, rfl⟩
        go_wp2_with fail
        go_roundg suf.length
        case measure => have := HLEN.out; simp at this; omega
        case rel => exact ⟨pre ++ [x], suf, by rw [HFS.out]; simp, rfl, rfl, by rw [List.length_append, List.map_append]; exact HOW.out, hMc, hOc⟩

end Go.Proofs.YtpknnamficegbaaGreatDoor

