/- Does a root tell a plain row's pairs, in every way: tells as a call. Conditions: the map stands in memory as TrAt and RepO say, the row in memory is its pairs. -/
import Derived.Deep.RegionHeld3
import Derived.Test.YtacegkjobfeiiaaCTellX
set_option linter.unusedVariables false
set_option linter.unusedSimpArgs false
set_option linter.unusedSectionVars false
set_option linter.unnecessarySimpa false
namespace Go.Proofs.Ytacegkjobfeiiaa
open Go.RowKit

set_option maxRecDepth 100000 in
set_option maxHeartbeats 16000000 in
theorem law_tells {A : PA} {n : Nat} {S : Nat → Sl} {t : Int} {fs : List Nat} {fa : Int} {tb g cap : Nat} {ao : Option Addr} {ox : Option Tr} {lo hi : Int} {w : World} (T : TrAt w tb A n S t fs fa) (R : RepO n S ox) (hrow : RowP w g ao cap (prs ox)) (hgl : prs ox ≠ [] → g < w.heap.size) (hl : (prs ox).length ≤ 1000) :
    Calls Try.prog 18 #[.pointer (some ⟨tb, 0, none⟩), .agg #[.int .i64 (rootOf S ox), .slice ao (prs ox).length cap], .int .i64 lo, .int .i64 hi] w fun e w' => e = .returned (.bool true) ∧ Only [] w w' := by
  have hsl := slots_prs ox
  have hcn := cnt_prs2 ox
  have HWALK := Lib.hid (fun (W : World) (lo hi : Int) => @trie_walk tb (rootOf S ox) lo hi W)
  have HGIV := Lib.hid (fun W lo hi p0 p1 p2 p3 p4 (o : Only [] w W) (k1 : isK lo = true) (k2 : isK hi = true) (c : WalkVars tb (rootOf S ox) lo hi W p0 p1 p2 p3 p4) => given_walk (T.plain o) R (by rw [hcn]; omega) k1 k2 c)
  have HCNT := Lib.hid (fun W (o : Only [] w W) => trie_count (T.plain o) R)
  have HNOD := Lib.hid (fun W (o : Only [] w W) => trie_nodes (T.plain o) R (by omega))
  have HFIN := Lib.hid (fun W i x (hx : (prs ox)[i]? = some x) (o : Only [] w W) => tell_find (T.plain o) R hx)
  have HRNK := Lib.hid (fun W i x (hx : (prs ox)[i]? = some x) (o : Only [] w W) => tell_rank (T.plain o) R hx)
  have HSEL := Lib.hid (fun W i x (hx : (prs ox)[i]? = some x) (o : Only [] w W) => tell_select (T.plain o) R hx)
  have HNXT := Lib.hid (fun W i x (hx : (prs ox)[i]? = some x) (o : Only [] w W) => tell_next_any (T.plain o) R hx)
  have HFL := Lib.hid (fun W (o : Only [] w W) (k : InK lo) => trie_find (k := lo) (T.plain o) R k)
  have HVL := Lib.hid (fun W (o : Only [] w W) => law_value (k := lo) (hrow.only o (by simp)) (by omega))
  have HROW := Lib.hid hrow
  have HWA := Lib.hid (win_all R)
  have HGL := Lib.hid hgl
  have hcap := hrow.fits
  obtain ⟨L, hL⟩ : ∃ L, prs ox = L := ⟨_, rfl⟩
  rw [hL] at HGIV HCNT HFIN HRNK HSEL HNXT HFL HVL HROW HWA HGL hcap hl hsl ⊢
  obtain ⟨rt, hrt⟩ : ∃ r, rootOf S ox = r := ⟨_, rfl⟩
  rw [hrt] at HWALK HGIV HCNT HNOD HFIN HRNK HSEL HNXT HFL ⊢
  obtain ⟨ns, hns⟩ : ∃ m, (slotsO ox).length = m := ⟨_, rfl⟩
  rw [hns] at HNOD hsl
  obtain ⟨pl, hpl⟩ : ∃ m, L.length = m := ⟨_, rfl⟩
  rw [hpl] at HCNT HVL hcap hl hsl ⊢
  have HPL := Lib.hid hpl
  have hw1 : IntKind.i64.wrap (2 * (pl : Int)) = 2 * (pl : Int) := IntWalk.i64_in _ ⟨by omega, by omega⟩
  have hw2 : IntKind.i64.wrap (2 * (pl : Int) - 1) = 2 * (pl : Int) - 1 := IntWalk.i64_in _ ⟨by omega, by omega⟩
  clear T R hrow hgl hcn hL hrt hns hpl
  go_enter Try.func18, Try.ntmps18
  go_upto_region 1 with fail
  refine wp_name (fun w1 => Blk w1 w.heap.size #[.int .i64 rt, .slice ao pl cap] 33 ∧ Only [] w w1) ⟨Blk.new _ _ _, Only.alloc _ _ _⟩ ?_
  obtain ⟨vb, hvb⟩ : ∃ q, w.heap.size = q := ⟨_, rfl⟩
  have HVB := Lib.hid hvb
  rw [hvb]
  clear hvb
  rintro w1 ⟨hB, hX1⟩
  have b0 := hB.cell 0 rfl
  have b1 := hB.cell 1 rfl
  have HB1 := Lib.hid hB
  have HX1 := Lib.hid hX1
  clear hB hX1
  go_wp2_with fail
  refine (HWALK.out w1 0 4294967295).mono ?_
  rintro e w2 ⟨p0, p1, p2, p3, p4, rfl, hv, hX2⟩
  have HC := Lib.hid (HGIV.out w2 0 4294967295 p0 p1 p2 p3 p4 (HX1.out.trans hX2) rfl rfl hv)
  have HX2 := Lib.hid hX2
  clear hv hX2 b0 b1
  go_wp2_with fail
  refine HC.out.mono ?_
  rintro e w3 ⟨v3, rfl, hown, hX3⟩
  rw [HWA.out] at hown
  obtain ⟨g3, a3, c3, rfl, hR3, hg3, _, _⟩ := rowp_own hown
  rw [HPL.out]
  have hX13 := HX2.out.trans hX3
  have hB := HB1.out.only hX13 (by simp)
  have b0 := hB.cell 0 rfl
  have HR3 := Lib.hid hR3
  have HX3 := Lib.hid hX13
  clear hB hX3 hR3 hown hg3 hX13 HC
  go_wp2_with fail
  refine (HCNT.out w3 (HX1.out.trans HX3.out)).mono ?_
  rintro e w4 ⟨rfl, hX4⟩
  have b0 := (HB1.out.only (HX3.out.trans hX4) (by simp)).cell 0 rfl
  have HR4 := Lib.hid (HR3.out.only hX4 (by simp))
  have HX4 := Lib.hid (HX3.out.trans hX4)
  clear hX4 HR3
  go_wp2_with fail
  refine (HNOD.out w4 (HX1.out.trans HX4.out)).mono ?_
  rintro e w5 ⟨v5, rfl, hown, hX5⟩
  obtain ⟨ad5, cap5, rfl⟩ := own_slice_any hown
  have HR5 := Lib.hid (HR4.out.only hX5 (by simp))
  have HX5 := Lib.hid (HX4.out.trans hX5)
  clear hX5 HR4 hown b0
  have HPR := Lib.hid (fun W (o : Only [] w1 W) (r : RowP W g3 a3 c3 L) => runs_pairs r (HROW.out.only (HX1.out.trans o) (by simp)) (by rw [HPL.out]; omega))
  rw [HPL.out] at HPR
  have HP5 := Lib.hid (HPR.out w5 HX5.out HR5.out)
  go_wp2_with (first | (go_at_call 8; refine (num_12 _ _).mono ?_; rintro e w' ⟨rfl, rfl⟩) | (go_at_call 16; refine HP5.out.mono ?_; rintro e w6 ⟨rfl, hX6⟩; have HX6 := Lib.hid (HX5.out.trans hX6); clear hX6))
  clear HP5 HPR HR5 HX5 HX4 HX3 HX2 HCNT HNOD
  obtain ⟨info0, hi0, hz0, hz1, hz2⟩ := info_parts info_pair
  have HI0 := Lib.hid (And.intro hi0 (And.intro hz0 (And.intro hz1 hz2)))
  clear hi0 hz0 hz1 hz2 hw1 hw2 hsl
  go_loopg [17, 18] pl (fun gk s17 s18 wr => ∃ i : Nat, i + gk = pl ∧ s18 = .int .i64 (i : Nat) ∧ wr.ownsRow w6.heap.size 56 2 s17 (win lo hi (L.take i)).length (prsC (win lo hi (L.take i))) ∧ Only [] w6 wr)
  case atStart => exact ⟨0, by omega, rfl, by simpa [win, prsC] using World.ownsRow_nil w6 _ _ _, Only.refl _ _⟩
  case round =>
    obtain ⟨i, hig, rfl, hown, hXr⟩ := hrel
    obtain ⟨ad7, cap7, rfl⟩ := own_slice_any hown
    have HI := Lib.hid hig
    have hXw := HX1.out.trans (HX6.out.trans hXr)
    have HXR := Lib.hid hXr
    have HXW := Lib.hid hXw
    have HOWN := Lib.hid hown
    obtain ⟨sl, hsl⟩ : ∃ m, (win lo hi (L.take i)).length = m := ⟨_, rfl⟩
    have hsl2 : sl ≤ 1000 := by have h1 := win_length lo hi (L.take i); rw [hsl] at h1; have h2 := HPL.out; simp at h1; omega
    rw [hsl] at HOWN ⊢
    have HSL := Lib.hid hsl
    have hBr := HB1.out.only (HX6.out.trans hXr) (by simp)
    by_cases hlt : i < pl
    · obtain ⟨x, hx⟩ : ∃ x, L[i]? = some x := ⟨_, List.getElem?_eq_getElem (by have := HPL.out; omega)⟩
      obtain ⟨rfl, c0, c1⟩ := (HROW.out.only hXw (by simp)).at hx
      have HF := Lib.hid (fun W (o : Only [] wr W) => HFIN.out W i x hx (hXw.trans o))
      have HR := Lib.hid (fun W (o : Only [] wr W) => HRNK.out W i x hx (hXw.trans o))
      have HS := Lib.hid (fun W (o : Only [] wr W) => HSEL.out W i x hx (hXw.trans o))
      have HN := Lib.hid (fun W (o : Only [] wr W) => HNXT.out W i x hx (hXw.trans o))
      have HXX := Lib.hid hx
      obtain ⟨xk, hxk⟩ : ∃ xk, x.1 = xk := ⟨_, rfl⟩
      obtain ⟨xv, hxv⟩ : ∃ xv, x.2 = xv := ⟨_, rfl⟩
      have HKV := Lib.hid (And.intro hxk hxv)
      rw [hxk] at c0 HF HR HS HN
      rw [hxv] at c1 HF HS
      have b0 := hBr.cell 0 rfl
      have HSC : Hid (∀ W, Only [] wr W → W.cell? ⟨vb, 0, none⟩ = some (.int .i64 rt) ∧ W.cell? ⟨g, i * 2, none⟩ = some (.int .i64 xk) ∧ W.cell? ⟨g, i * 2 + 1, none⟩ = some (.int .i64 xv)) := Lib.hid (fun W o => ⟨keep_cell o b0, keep_cell o c0, keep_cell o c1⟩)
      have hii : (i : Int) < pl := by omega
      clear hxk hxv hx hown hXr hXw hBr b0 c0 c1 hig hsl
      go_upto_region 11 with fail
      obtain ⟨d0, d1, _⟩ := HSC.out wr.drew (Only.drew _ _)
      go_region_held3 (fun W => W.cell? ⟨vb, 0, none⟩ = some (.int .i64 rt) ∧ W.cell? ⟨g, i * 2, none⟩ = some (.int .i64 xk))
        (first | with_reducible exact ⟨d0, d1⟩ | exact ⟨(HSC.out _ hX8).1, (HSC.out _ hX8).2.1⟩)
        ((go_at_call 39; refine (HF.out wr.drew (Only.drew _ _)).mono ?_; rintro e w8 ⟨rfl, hX8a⟩; have hX8 := (Only.drew [] wr).trans hX8a; clear hX8a))
      go_upto_region 12 with fail
      have HX8 := Lib.hid hX8
      clear d0 d1 hX8 HF
      obtain ⟨d0, d1, _⟩ := HSC.out w8.drew (HX8.out.trans (Only.drew _ _))
      go_region_held3 (fun W => W.cell? ⟨vb, 0, none⟩ = some (.int .i64 rt) ∧ W.cell? ⟨g, i * 2, none⟩ = some (.int .i64 xk))
        (first | with_reducible exact ⟨d0, d1⟩ | exact ⟨(HSC.out _ hX9).1, (HSC.out _ hX9).2.1⟩)
        ((go_at_call 27; refine (HR.out w8.drew (HX8.out.trans (Only.drew _ _))).mono ?_; rintro e w9 ⟨rfl, hX9a⟩; have hX9 := (HX8.out.trans (Only.drew [] w8)).trans hX9a; clear hX9a))
      have HX9 := Lib.hid hX9
      have b0 := (HSC.out w9 hX9).1
      clear d0 d1 hX9 HR HX8
      go_upto_region 14 with (go_at_call 28; refine (HS.out w9 HX9.out).mono ?_; rintro e w10 ⟨rfl, hX10⟩)
      refine wp_name (fun w11 => Blk w11 w10.heap.size #[.int .i64 xk, .int .i64 xv] 56 ∧ Only [] wr w11) ⟨Blk.new _ _ _, (HX9.out.trans hX10).trans (Only.alloc _ _ _)⟩ ?_
      clear HS HX9 b0 hX10
      obtain ⟨sb, hsb⟩ : ∃ q, w10.heap.size = q := ⟨_, rfl⟩
      rw [hsb]
      clear hsb
      rintro w11 ⟨hSB, hX11⟩
      have HSB := Lib.hid hSB
      have HX11 := Lib.hid hX11
      clear hSB hX11
      go_cut [26, 27] (fun s26 s27 wc => ∃ (nb : Nat) (qk qv he : Int), s26 = .pointer (some ⟨nb, 0, none⟩) ∧ s27 = .int .i64 he ∧ Blk wc nb #[.int .i64 qk, .int .i64 qv] 56 ∧ ((L[i + 1]? = some (qk, qv) ∧ he = 0) ∨ (L[i + 1]? = none ∧ he = 122)) ∧ Only [] w11 wc)
      case first =>
        obtain ⟨d0, d1, _⟩ := HSC.out w11.drew (HX11.out.trans (Only.drew _ _))
        have HOA : Hid (Only [] w11 (w11.alloc (.cells #[.int .i64 0, .int .i64 0] 56)).drew) := Lib.hid ((Only.alloc [] w11 _).trans (Only.drew _ _))
        have HZ : Hid (Blk (w11.alloc (.cells #[.int .i64 0, .int .i64 0] 56)).drew w11.heap.size #[.int .i64 0, .int .i64 0] 56) := Lib.hid (Blk.new w11 _ _).drew
        have HS2 : Hid (∀ (W : World) (x0 x1 : Value), Only [] w11 W → ((W.setCell ⟨w11.heap.size, 0, none⟩ x0).setCell ⟨w11.heap.size, 1, none⟩ x1).cell? ⟨vb, 0, none⟩ = some (.int .i64 rt) ∧ ((W.setCell ⟨w11.heap.size, 0, none⟩ x0).setCell ⟨w11.heap.size, 1, none⟩ x1).cell? ⟨g, i * 2, none⟩ = some (.int .i64 xk)) := Lib.hid (fun W x0 x1 o => by
          have h := HSC.out _ (HX11.out.trans (o.past (set_two W w11.heap.size x0 x1) (fun k hk => by simp at hk; right; omega)))
          exact ⟨h.1, h.2.1⟩)
        go_region_held3 (fun W => W.cell? ⟨vb, 0, none⟩ = some (.int .i64 rt) ∧ W.cell? ⟨g, i * 2, none⟩ = some (.int .i64 xk))
          (first | with_reducible exact ⟨d0, d1⟩ | with_reducible exact HS2.out _ _ _ hX12 | exact ⟨(HSC.out _ (HX11.out.trans HOA.out)).1, (HSC.out _ (HX11.out.trans HOA.out)).2.1⟩ | exact ⟨(HSC.out _ (HX11.out.trans hX12)).1, (HSC.out _ (HX11.out.trans hX12)).2.1⟩ | exact ⟨(HSC.out _ (HX11.out.trans (hX12.trans (Only.alloc _ _ _)))).1, (HSC.out _ (HX11.out.trans (hX12.trans (Only.alloc _ _ _)))).2.1⟩)
          (first | (go_at_call 29; refine (HN.out w11.drew (HX11.out.trans (Only.drew _ _))).mono ?_; rintro e w12 ⟨qk, qv, he, rfl, hq, hX12a⟩; have hX12 := (Only.drew [] w11).trans hX12a; clear hX12a) | (go_at_call 29; refine (HN.out _ (HX11.out.trans HOA.out)).mono ?_; rintro e w12 ⟨qk, qv, he, rfl, hq, hX12a⟩; have hz := HZ.out.only hX12a (by simp); have z0 := hz.cell 0 rfl; have z1 := hz.cell 1 rfl; have q0 := hz.free 0; have q1 := hz.free 1; have hX12 := HOA.out.trans hX12a; have HZZ := Lib.hid hz; clear hX12a hz))
        all_goals go_wp2_with fail
        all_goals go_meet
        · exact ⟨_, qk, qv, he, rfl, rfl, Blk.new _ _ _, hq, hX12.trans (Only.alloc _ _ _)⟩
        · exact ⟨_, qk, qv, he, rfl, rfl, (HZZ.out.set_same 0 (.int .i64 qk)).set_same 1 (.int .i64 qv), hq, hX12.past (set_two _ _ _ _) (fun k hk => by simp at hk; right; omega)⟩
      case rest =>
        obtain ⟨nb, qk, qv, he, rfl, rfl, hNB, hq, hXc⟩ := hcut
        obtain ⟨wk, hwk⟩ : ∃ x, x = wc := ⟨_, rfl⟩
        subst hwk
        have hSB := HSB.out.only hXc (by simp)
        have s0 := hSB.cell 0 rfl
        have s1 := hSB.cell 1 rfl
        have n0 := hNB.cell 0 rfl
        have n1 := hNB.cell 1 rfl
        have HXC := Lib.hid (HX11.out.trans hXc)
        obtain ⟨_, c0, c1⟩ := HSC.out wk HXC.out
        have HQ := Lib.hid hq
        clear hNB hSB hXc HN HX11 HSB hq
        go_upto_region 15 with fail
        go_cut [184] (fun s184 wq => s184 = .bool false ∧ Only [] wk wq)
        case first =>
          go_quiet ((go_at_call 8; exact Calls.quiet_of_same ((num_12 _ _).mono fun _ _ h => ⟨h.1, h.2.symm⟩)))
          go_wp2_with fail
          go_meet
          case rel => exact ⟨rfl, Only.drewN _ _ _⟩
        case rest =>
          obtain ⟨rfl, hXq⟩ := hcut
          obtain ⟨wl, hwl⟩ : ∃ x, x = wc := ⟨_, rfl⟩
          subst hwl
          have c0 := keep_cell hXq c0
          have c1 := keep_cell hXq c1
          have n0 := keep_cell hXq n0
          have n1 := keep_cell hXq n1
          have HXL := Lib.hid (HXC.out.trans hXq)
          clear hXq s0 s1 HXC
          go_upto_region 17 with fail
          go_cut [215] (fun s215 wq => s215 = .bool false ∧ Only [] wl wq)
          case first =>
            have hwi : IntKind.i64.wrap ((i : Int) + 1) = (i : Int) + 1 := IntWalk.i64_in _ ⟨by omega, by omega⟩
            rcases HQ.out with ⟨hnx, rfl⟩ | ⟨hnx, rfl⟩
            · have hlt2 := (List.getElem?_eq_some_iff.1 hnx).1
              rw [HPL.out] at hlt2
              obtain ⟨_, m0, m1⟩ := (HROW.out.only (HXW.out.trans HXL.out) (by simp)).at hnx
              have hd1 : decide ((i : Int) + 1 < (pl : Int)) = true := by simp; omega
              have hd2 : ((i : Int) + 1 == (pl : Int)) = false := by simp; omega
              have hlt3 : (i : Int) + 1 < (pl : Int) := by omega
              have hnat : ((i : Int) + 1).toNat = i + 1 := by omega
              clear hnx
              go_quiet ((go_at_call 8; exact Calls.quiet_of_same ((num_12 _ _).mono fun _ _ h => ⟨h.1, h.2.symm⟩)))
              go_wp2_with fail
              go_meet
              case rel => exact ⟨rfl, Only.drewN _ _ _⟩
            · have hge2 := List.getElem?_eq_none_iff.1 hnx
              rw [HPL.out] at hge2
              have hd1 : decide ((i : Int) + 1 < (pl : Int)) = false := by simp; omega
              have hd2 : ((i : Int) + 1 == (pl : Int)) = true := by simp; omega
              clear hnx
              go_quiet ((go_at_call 8; exact Calls.quiet_of_same ((num_12 _ _).mono fun _ _ h => ⟨h.1, h.2.symm⟩)))
              go_wp2_with fail
              go_meet
              case rel => exact ⟨rfl, Only.drewN _ _ _⟩
          case rest =>
            obtain ⟨rfl, hXq⟩ := hcut
            obtain ⟨wm, hwm⟩ : ∃ x, x = wc := ⟨_, rfl⟩
            subst hwm
            have c0 := keep_cell hXq c0
            have c1 := keep_cell hXq c1
            have HXM := Lib.hid (HXL.out.trans hXq)
            have HSN := Lib.hid (win_snoc (lo := lo) (hi := hi) HXX.out)
            clear hXq n0 n1 HXL HQ
            rw [HKV.out.1] at HSN
            have HOM := Lib.hid (ownsRow_only HOWN.out HXM.out (fun _ _ => by simp))
            by_cases hlo : lo ≤ xk
            · by_cases hhi : xk ≤ hi
              · have HSN' : Hid (win lo hi (L.take (i + 1)) = win lo hi (L.take i) ++ [x]) := Lib.hid (by rw [HSN.out, if_pos ⟨hlo, hhi⟩])
                obtain ⟨hi0, hz0, hz1, hz2⟩ := HI0.out
                have hbm : w6.heap.size ≤ wm.heap.size := Nat.le_trans HXR.out.size HXM.out.size
                go_wp2_with (at_builtin; refine wpList_append_any (by rfl) (.tmp 232) (.tmp 237) 31 (by rfl) w6.heap.size 56 info0 _ 2 16 Try.underlying31 hi0 hz0 hz1 hz2 rfl (by decide) _ sl (prsC (win lo hi (L.take i))) rfl (HOM.out.alloc _) (some ⟨wm.heap.size, 0, none⟩) 1 1 [.int .i64 xk, .int .i64 xv] rfl rfl (fun e => by cases e) (fun ad e => by cases e; exact cells_pair _ _ _ _) (fun u hu => by simp at hu; rcases hu with rfl | rfl <;> rfl) (by unfold maxLen; omega) (by omega) (by simp; omega) ?_)
                intro v9 wn hown9 hXn hatn
                have hX19 : Only (Value.slice ad7 sl cap7).ownBlock.toList wm wn := (Only.alloc _ wm _).trans hXn
                have HON : Hid (wn.ownsRow w6.heap.size 56 2 v9 (win lo hi (L.take (i + 1))).length (prsC (win lo hi (L.take (i + 1))))) := Lib.hid (by
                  rw [HSN'.out, prsC_append, List.length_append, HSL.out]
                  have e1 : prsC [x] = [.int .i64 xk, .int .i64 xv] := by show [Value.int .i64 x.1, Value.int .i64 x.2] = _; rw [HKV.out.1, HKV.out.2]
                  rw [e1]
                  exact hown9)
                have HXN : Hid (Only [] w6 wn) := Lib.hid ((HXR.out.trans HXM.out).past hX19 (fun b hb => Or.inr (HOM.out.lt b (by simpa using hb)).1))
                clear hown9 hXn hatn hX19 c0 c1 hi0 hz0 hz1 hz2
                go_wp2_with fail
                go_roundg (gk - 1)
                case measure => have := HI.out; omega
                case rel => exact ⟨i + 1, by have := HI.out; omega, by go_num, HON.out, HXN.out⟩
              · have HSN' : Hid (win lo hi (L.take (i + 1)) = win lo hi (L.take i)) := Lib.hid (by rw [HSN.out, if_neg (fun h => hhi h.2), List.append_nil])
                go_wp2_with fail
                go_roundg (gk - 1)
                case measure => have := HI.out; omega
                case rel => exact ⟨i + 1, by have := HI.out; omega, by go_num, by rw [HSN'.out, HSL.out]; exact HOM.out, HXR.out.trans HXM.out⟩
            · have HSN' : Hid (win lo hi (L.take (i + 1)) = win lo hi (L.take i)) := Lib.hid (by rw [HSN.out, if_neg (fun h => hlo h.1), List.append_nil])
              go_wp2_with fail
              go_roundg (gk - 1)
              case measure => have := HI.out; omega
              case rel => exact ⟨i + 1, by have := HI.out; omega, by go_num, by rw [HSN'.out, HSL.out]; exact HOM.out, HXR.out.trans HXM.out⟩
    · have hil : i = pl := by omega
      subst hil
      have HBW := Lib.hid hBr
      have HLL : Hid (win lo hi (L.take i) = win lo hi L) := Lib.hid (by rw [List.take_of_length_le (by rw [HPL.out]; exact Nat.le_refl _)])
      rw [HLL.out] at HOWN HSL
      clear hown hXr hXw hBr hig hlt HFIN HRNK HSEL HNXT hsl
      by_cases k1 : lo < 0
      · have hd1 : decide (lo < 0) = true := by simpa using k1
        go_wp2_with fail
        go_ret
        exact ⟨rfl, HXW.out⟩
      · by_cases k2 : hi < 0
        · go_wp2_with fail
          go_ret
          exact ⟨rfl, HXW.out⟩
        · by_cases k3 : 4294967295 < lo
          · go_wp2_with fail
            go_ret
            exact ⟨rfl, HXW.out⟩
          · by_cases k4 : 4294967295 < hi
            · go_wp2_with fail
              go_ret
              exact ⟨rfl, HXW.out⟩
            · have q1 : isK lo = true := by simp [isK]; omega
              have q2 : isK hi = true := by simp [isK]; omega
              have HQ1 := Lib.hid (And.intro q1 q2)
              have HQ2 : Hid (InK lo) := Lib.hid ⟨by omega, by omega⟩
              have b0 := HBW.out.cell 0 rfl
              obtain ⟨vhas, hvh⟩ : ∃ q, (valL L lo).2 = q := ⟨_, rfl⟩
              obtain ⟨vval, hvv⟩ : ∃ q, (valL L lo).1 = q := ⟨_, rfl⟩
              rw [hvh, hvv] at HFL HVL
              clear q1 q2 hvh hvv
              go_wp2_with fail
              refine (HWALK.out wr lo hi).mono ?_
              rintro e wa ⟨p0, p1, p2, p3, p4, rfl, hv, hXa⟩
              have HC := Lib.hid (HGIV.out wa lo hi p0 p1 p2 p3 p4 (HXW.out.trans hXa) HQ1.out.1 HQ1.out.2 hv)
              have HXA := Lib.hid hXa
              clear hv hXa b0
              go_wp2_with fail
              refine HC.out.mono ?_
              rintro e wb ⟨vb5, rfl, hownb, hXb⟩
              obtain ⟨g8, a8, c8, rfl, hR8, hg8, _, _⟩ := rowp_own hownb
              rw [HSL.out]
              have b0 := (HBW.out.only (HXA.out.trans hXb) (by simp)).cell 0 rfl
              have HR8 := Lib.hid hR8
              have HXB := Lib.hid (HXA.out.trans hXb)
              clear hownb hR8 hg8 hXb HC HXA
              go_wp2_with fail
              refine (HFL.out wb (HXW.out.trans HXB.out) HQ2.out).mono ?_
              rintro e wd ⟨rfl, hXd⟩
              have HR9 := Lib.hid (HR8.out.only hXd (by simp))
              have HXD := Lib.hid (HXB.out.trans hXd)
              clear hXd b0 HR8 HXB
              go_wp2_with fail
              refine (HVL.out wd (HXW.out.trans HXD.out)).mono ?_
              rintro e we ⟨rfl, hXe⟩
              have HXE := Lib.hid (HXD.out.trans hXe)
              have hRe := HR9.out.only hXe (by simp)
              have hRs : ∃ gz, RowP we gz ad7 cap7 (win lo hi L) := by
                have ho := ownsRow_only HOWN.out HXE.out (fun _ _ => by simp)
                rw [← HSL.out] at ho
                obtain ⟨gz, az, cz, hz1, hz2, _, _, _⟩ := rowp_own ho
                cases hz1
                exact ⟨gz, hz2⟩
              obtain ⟨gz, hRz⟩ := hRs
              have HPZ := Lib.hid (runs_pairs hRe hRz (by rw [HSL.out]; omega))
              rw [HSL.out] at HPZ
              clear hXe hRe hRz HR9 HXD
              go_wp2_with (first | (go_at_call 8; refine (num_12 _ _).mono ?_; rintro e w' ⟨rfl, rfl⟩) | (go_at_call 16; refine HPZ.out.mono ?_; rintro e wf ⟨rfl, hXf⟩; have HXF := Lib.hid (HXE.out.trans hXf); clear hXf))
              go_ret
              exact ⟨rfl, HXW.out.trans HXF.out⟩

end Go.Proofs.Ytacegkjobfeiiaa

