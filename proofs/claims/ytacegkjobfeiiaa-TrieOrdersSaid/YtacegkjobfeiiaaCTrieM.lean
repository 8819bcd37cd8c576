/- A way made anew: upwards as a call. Conditions: the pool stands in memory as PoolAt says, the edit on its way as MkAt says, the way's cells as StepsAt says. -/
import Derived.Deep.AppendLies
import Derived.Test.YtacegkjobfeiiaaCMakeX
set_option linter.unusedVariables false
set_option linter.unusedSimpArgs false
set_option linter.unusedSectionVars false
set_option linter.unnecessarySimpa false
namespace Go.Proofs.Ytacegkjobfeiiaa
open Go.RowKit

set_option maxRecDepth 100000 in
set_option maxHeartbeats 4000000 in
theorem trie_upwards {A : PA} {n : Nat} {S0 S : Nat → Sl} {fs0 fs : List Nat} {t0 t fa c : Int} {tb mb base g cap : Nat} {ad : Option Addr} {W : List Stp} {T0 nn cur0 : Tr} {k : Nat} {more old : Int} {had : Bool} {gv mv : Value} {gone0 : List Int} {wS w : World}
    (T : TrAt w tb A n S t fs fa) (M : MkAt w mb tb base (hnd S cur0) old had gv mv gone0 (mds S0 (fs0.take k))) (s : Sit mb tb base A) (G : Mg S0 S fs0 fs t0 t k) (F : Fre n S0 fs0 c) (hc : c < 999998) (ht : t0 + 2 * fs0.length ≤ 1000000)
    (hW : Way T0 W nn) (hT0 : T0.wf) (RT : Rep n S0 T0) (hcur : cur0.wf) (Rc : Rep n S cur0) (hlast : ∀ s, W.getLast? = some s → s.lo ≤ cur0.lo ∧ cur0.hi ≤ s.hi) (hmore : (cur0.cnt : Int) = nn.cnt + more) (hm1 : -1 ≤ more) (hm2 : more ≤ 1)
    (hlen : W.length ≤ 64) (hg : g ≠ mb) (hgA : g ∉ A.all) (gg : gv.ownBlock ≠ some g) (gm : mv.ownBlock ≠ some g) (hgl : g < w.heap.size) (hst : W = [] ∨ (ad = some ⟨g, 0, none⟩ ∧ StepsAt w S0 g W)) (hO : Only A.all wS w) (hbS : base = wS.heap.size) (hmb : base ≤ mb) (hg0 : gone0.length ≤ 10) :
    Calls Try.prog 46 #[.pointer (some ⟨mb, 0, none⟩), .slice ad W.length cap, .int .i64 more] w (UpPost A n S0 fs0 t0 fa tb mb base W cur0 k old had gone0 wS) := by
  have hS1 : StepsAt w S0 g W := by
    rcases hst with h | h
    · subst h; exact ⟨hgl, fun q s hs => by simp at hs⟩
    · exact h.2
  have hAd := Lib.hid (show W = [] ∨ ad = some ⟨g, 0, none⟩ from hst.imp id fun h => h.1)
  have HSIT := Lib.hid s
  have HF := Lib.hid F
  have HCC := Lib.hid hc
  have HTT := Lib.hid ht
  have HW := Lib.hid hW
  have HT0 := Lib.hid hT0
  have HRT := Lib.hid RT
  have HLAST := Lib.hid hlast
  have HCUR := Lib.hid hcur
  have HMORE := Lib.hid hmore
  have HGM := Lib.hid hg
  have HGA := Lib.hid hgA
  have HBS := Lib.hid hbS
  have HMBB := Lib.hid hmb
  have HG0 := Lib.hid hg0
  have hn := T.pool.many.2
  have HNN := Lib.hid hn
  have hk0 := G.le
  have HK0 := Lib.hid hk0
  have HFL := Lib.hid (nodup_length n fs0 F.nodup (fun x hx => ⟨(F.rng x hx).1, (F.rng x hx).2.1⟩))
  have hU : Hid (UpAt A n S0 fs0 t0 fa c tb mb base g W cur0 k old had gone0 wS W.length S fs t (hnd S cur0) gv mv w) := by
    refine Lib.hid ⟨?_, T, ?_, ?_, ?_, ?_, hS1, gg, gm, hO⟩
    · rw [List.drop_length, Nat.sub_self, Nat.add_zero]
      have : hnds S0 (goneI []) = [] := rfl
      rw [this, List.append_nil]; exact M
    · rw [Nat.sub_self, Nat.add_zero]; exact G
    · rw [List.drop_length]; exact Rc
    · rw [List.drop_length]; rfl
    · rw [List.drop_length]; exact hcur
  clear T M s G F hc ht hW hT0 RT hcur Rc hlast hmore hg hgA gg gm hgl hst hO hbS hS1 hn hk0 hmb hg0
  generalize hLW : W.length = lw at *
  have HLW := Lib.hid hLW
  clear hLW
  go_enter Try.func46, Try.ntmps46
  go_wp2_with fail
  go_loopg [7] lw (fun gk s7 wr => ∃ m : Nat, m ≤ lw ∧ m = gk ∧ s7 = .int .i64 ((m : Int) - 1) ∧ ∃ S fs t root gv mv, Hid (UpAt A n S0 fs0 t0 fa c tb mb base g W cur0 k old had gone0 wS m S fs t root gv mv wr))
  case atStart => exact ⟨lw, Nat.le_refl _, rfl, rfl, S, fs, t, _, gv, mv, hU⟩
  case round =>
    clear hU
    obtain ⟨m, hmk, hgm, rfl, S, fs, t, root, gv, mv, HU⟩ := hrel
    have HK := Lib.hid hgm
    clear hgm
    by_cases hm0 : 0 < m
    · obtain ⟨q, rfl⟩ : ∃ q, m = q + 1 := ⟨m - 1, by omega⟩
      obtain ⟨st, hst⟩ : ∃ st, W[q]? = some st := ⟨_, List.getElem?_eq_getElem (by rw [HLW.out]; omega)⟩
      have HST := Lib.hid hst
      have hx := HU.out.st.cells q st hst
      obtain ⟨hdrop, hway2, hmem⟩ := way_at HW.out hst
      have HDROP := Lib.hid hdrop
      have HWAY2 := Lib.hid hway2
      have hswf := (way_wf HW.out HT0.out).2 st hmem
      have hsR := (way_rep HW.out HRT.out).2 st hmem
      have HSWF := Lib.hid hswf
      have HSR := Lib.hid hsR
      have had0 : ad = some ⟨g, 0, none⟩ := by
        rcases hAd.out with h | h
        · rw [h] at hst; simp at hst
        · exact h
      subst had0
      clear hst hdrop hway2 hmem hm0
      obtain ⟨si, sp, sf, sl, sr, sright⟩ := st
      have c0 : wr.cell? ⟨g, q * 7, none⟩ = some (.int .i64 sp) := hx 0 _ rfl
      have c1 : wr.cell? ⟨g, q * 7 + 1, none⟩ = some (.int .i64 sf) := hx 1 _ rfl
      have c2 : wr.cell? ⟨g, q * 7 + 2, none⟩ = some (.int .i64 (hnd S0 sl)) := hx 2 _ rfl
      have c3 : wr.cell? ⟨g, q * 7 + 3, none⟩ = some (.int .i64 (hnd S0 sr)) := hx 3 _ rfl
      have c4 : wr.cell? ⟨g, q * 7 + 4, none⟩ = some (.int .i64 ((Stp.whole ⟨si, sp, sf, sl, sr, sright⟩).cnt : Nat)) := hx 4 _ rfl
      have c5 : wr.cell? ⟨g, q * 7 + 5, none⟩ = some (.int .i64 (hnd S0 (Stp.whole ⟨si, sp, sf, sl, sr, sright⟩))) := hx 5 _ rfl
      have c6 : wr.cell? ⟨g, q * 7 + 6, none⟩ = some (.bool sright) := hx 6 _ rfl
      obtain ⟨hsp, hsq, hsf0, hsfM, _⟩ := id hswf
      have hsfM' : sf + pw (sp + 1) - 1 ≤ 4294967295 := hsfM
      have hsf0' : 0 ≤ sf := hsf0
      have hpp := pw_pos (sp + 1)
      have hcn := wf_cnt_le hswf
      have HCN := Lib.hid hcn
      have HSF : Hid (0 ≤ sf ∧ sf ≤ 4294967295) := Lib.hid ⟨hsf0, by omega⟩
      have HSP := Lib.hid hsp
      clear hx hswf hsR hsq hsf0 hsfM hpp hcn hsp hsfM' hsf0'
      generalize hvl : hnd S0 sl = vl at *
      generalize hvr : hnd S0 sr = vr at *
      generalize hvc : (((Stp.whole ⟨si, sp, sf, sl, sr, sright⟩).cnt : Nat) : Int) = vc at *
      generalize hvh : hnd S0 (Stp.whole ⟨si, sp, sf, sl, sr, sright⟩) = vh at *
      have HVL := Lib.hid hvl
      have HVR := Lib.hid hvr
      have HVC := Lib.hid hvc
      have HVH := Lib.hid hvh
      clear hvl hvr hvc hvh
      have hq1 : ((q + 1 : Nat) : Int) - 1 = q := by omega
      have hq2 : (0 : Int) ≤ q := by omega
      have hq3 : (q : Int) < lw := by omega
      rw [hq1]
      clear hq1
      go_upto_region 5 with fail
      refine wp_name (fun w1 => UpAt A n S0 fs0 t0 fa c tb mb base g W cur0 k old had gone0 wS (q + 1) S fs t root gv mv w1 ∧ Blk w1 wr.heap.size #[.int .i64 sp, .int .i64 sf, .int .i64 vl, .int .i64 vr, .int .i64 vc, .int .i64 vh, .bool sright] 137) ⟨HU.out.plain (Only.alloc [] _ _), Blk.new _ _ _⟩ ?_
      have hszr : mb < wr.heap.size ∧ g < wr.heap.size ∧ base ≤ wr.heap.size := ⟨HU.out.me.lt, HU.out.st.lt, by rw [HBS.out]; exact HU.out.only.size⟩
      have hmvl : ∀ b, (gv.ownBlock = some b ∨ mv.ownBlock = some b) → b < wr.heap.size := by
        rintro b (hb | hb)
        · exact (HU.out.me.gown.lt b hb).2
        · exact (HU.out.me.mown.lt b hb).2
      generalize wr.heap.size = sb at hszr hmvl ⊢
      have HMVL := Lib.hid hmvl
      clear hmvl
      obtain ⟨hsz1, hsz2, hsz3⟩ := hszr
      rintro w1 ⟨hU1, hB1⟩
      have m2 := hU1.me.blk.cell 2 rfl
      have b0 := hB1.cell 0 rfl
      have b1 := hB1.cell 1 rfl
      have b2 := hB1.cell 2 rfl
      have b3 := hB1.cell 3 rfl
      have b4 := hB1.cell 4 rfl
      have b5 := hB1.cell 5 rfl
      have b6 := hB1.cell 6 rfl
      have HU1 := Lib.hid hU1
      have HB1 := Lib.hid hB1
      clear hU1 hB1 c0 c1 c2 c3 c4 c5 c6
      obtain ⟨lv, hlv⟩ : ∃ lv, (if sright then vl else root) = lv := ⟨_, rfl⟩
      obtain ⟨rv, hrv⟩ : ∃ rv, (if sright then root else vr) = rv := ⟨_, rfl⟩
      have HLV := Lib.hid hlv
      have HRV := Lib.hid hrv
      clear hlv hrv
      go_quiet (fail)
      go_upto_if 32 with fail
      refine wp_name (fun w2 => Only [] w1 w2) (Only.drewN _ _ _) ?_
      rintro w2 hX2
      have HU2 := Lib.hid (HU1.out.plain hX2)
      have hB2 := HB1.out.only hX2 (by simp)
      have HB2 := Lib.hid hB2
      have m2 := HU2.out.me.blk.cell 2 rfl
      have b0 := hB2.cell 0 rfl
      have b1 := hB2.cell 1 rfl
      have b2 := hB2.cell 2 rfl
      have b3 := hB2.cell 3 rfl
      have b4 := hB2.cell 4 rfl
      have b5 := hB2.cell 5 rfl
      have b6 := hB2.cell 6 rfl
      clear hX2 hB2 HU1 HB1
      go_cut [9, 10] (fun s9 s10 wc => s9 = .int .i64 lv ∧ s10 = .int .i64 rv ∧ Only [] w2 wc)
      case first =>
        cases sright
        · go_wp2_with fail
          go_meet
          case rel => exact ⟨by rw [← HLV.out]; rfl, by rw [← HRV.out]; rfl, Only.refl _ _⟩
        · go_wp2_with fail
          go_quiet (fail)
          go_wp2_with fail
          go_meet
          case rel => exact ⟨by rw [← HLV.out]; rfl, by rw [← HRV.out]; rfl, Only.drewN [] _ _⟩
      case rest =>
        obtain ⟨rfl, rfl, hX⟩ := hcut
        have HU3 := Lib.hid (HU2.out.plain hX)
        have hB3 := HB2.out.only hX (by simp)
        have HB3 := Lib.hid hB3
        have b0 := hB3.cell 0 rfl
        have b1 := hB3.cell 1 rfl
        have b4 := hB3.cell 4 rfl
        have hbw : base ≤ wc.heap.size := by have := hB3.lt; omega
        have hvc0 : 0 ≤ vc := by rw [← HVC.out]; omega
        have hvc1 : vc ≤ 4294967296 := HCN.out
        have HBW := Lib.hid hbw
        clear hX hB3 HU2 HB2 m2 b2 b3 b5 b6 HU hbw
        have hGm := HU3.out.mg
        have htg := hGm.tag
        have hle := hGm.le
        have hfl := HFL.out
        have hnn := HNN.out
        have htt := HTT.out
        have hcc := HCC.out
        cases fs with
        | nil =>
          have HMK := Lib.hid (fun a b c' d => makes_undo (a := a) (b := b) (c' := c') (d := d) HU3.out.tr HU3.out.me HSIT.out hGm HF.out (by omega) htt HBW.out hnn)
          have hkk := Lib.hid hle
          clear hGm htg hle hfl hnn htt hcc
          go_wp2_with fail
          refine (mk_fork HSP.out HSF.out ((HMK.out _ _ _ _).mono fun e w' h => ⟨102, h.1, h⟩)).mono ?_
          rintro e w4 ⟨rfl, hk4, hB4, ⟨S4, t4, hT4, hU4, ht4⟩, hX4⟩
          have HT4 := Lib.hid hT4
          have HU4 := Lib.hid hU4
          have HB4 := Lib.hid hB4
          have Ht4 := Lib.hid ht4
          have HK4 := Lib.hid hk4
          have hO4 : Only A.all wS w4 := HU3.out.only.past hX4 (by
            intro b hb
            rcases List.mem_cons.1 hb with rfl | hb
            · by_cases h : b ∈ A.all
              · exact Or.inl h
              · exact Or.inr (by rw [← HBS.out]; exact HMBB.out)
            · exact Or.inl hb)
          have HO4 := Lib.hid hO4
          clear hT4 hU4 hB4 ht4 hk4 hX4 hO4 b0 b1 b4
          go_wp2_with fail
          go_ret
          right
          refine ⟨rfl, ?_, HB4.out, S4, t4, HT4.out, HU4.out, Ht4.out, HO4.out⟩
          have h1 := HK4.out
          have h2 := HLW.out
          omega
        | cons i r =>
          have hF1 := hGm.fre HF.out
          have hsp := hF1.spare (by omega) (show i ∈ i :: r by simp)
          obtain ⟨hs1, hs2, hs3, hs4, hs5⟩ := hsp
          have hml : (mds S0 (fs0.take (k + (W.length - (q + 1))))).length ≤ 5000 := by
            rw [mds_length, List.length_take]; omega
          have HMK := Lib.hid (fun a b c' d => makes_ok (a := a) (b := b) (c := c') (d := d) HU3.out.tr HU3.out.me HSIT.out ⟨hs4, by omega⟩ (by omega) hml HBW.out)
          clear hGm htg hle hfl hnn htt hcc hF1 hs1 hs2 hs3 hs4 hs5 hml
          go_wp2_with fail
          refine (mk_fork HSP.out HSF.out ((HMK.out _ _ _ _).mono fun e w' h => ⟨0, h.1, h⟩)).mono ?_
          rintro e w5 ⟨rfl, mv5, hM5, hT5, hX5, hnv5⟩
          have hsbn : sb ∉ mb :: (mv.ownBlock.toList ++ A.all) := by
            intro hm
            simp only [List.mem_cons, List.mem_append] at hm
            rcases hm with hm | hm | hm
            · omega
            · have := HMVL.out sb (Or.inr (by simpa using hm)); omega
            · have := HSIT.out.a sb hm; omega
          have hB5 := HB3.out.only hX5 hsbn
          have hgn : g ∉ mb :: (mv.ownBlock.toList ++ A.all) := by
            intro hm
            simp only [List.mem_cons, List.mem_append] at hm
            rcases hm with hm | hm | hm
            · exact HGM.out hm
            · exact HU3.out.gm (by simpa using hm)
            · exact HGA.out hm
          have HS5 := Lib.hid (HU3.out.st.only hX5 hgn)
          have HO5 := Lib.hid (show Only A.all wS w5 from HU3.out.only.past hX5 (by
            intro b hb
            simp only [List.mem_cons, List.mem_append] at hb
            rcases hb with rfl | hb | hb
            · by_cases h : b ∈ A.all
              · exact Or.inl h
              · exact Or.inr (by rw [← HBS.out]; exact HMBB.out)
            · exact Or.inr (by have := (HU3.out.me.mown.lt b (by simpa using hb)).1; rw [← HBS.out]; exact this)
            · exact Or.inl hb))
          have HNV5 := Lib.hid hnv5
          have HM5 := Lib.hid hM5
          have HT5 := Lib.hid hT5
          have HB5 := Lib.hid hB5
          have HGL : Hid ((gone0 ++ hnds S0 (goneI (W.drop (q + 1)))).length ≤ 70 + gone0.length) := Lib.hid (by rw [List.length_append, hnds_length, goneI_length, List.length_drop]; have := HLW.out; omega)
          have HSZ5 := Lib.hid hX5.size
          have HLVR : Hid (lv = lv ∧ rv = rv) := Lib.hid ⟨rfl, rfl⟩
          clear hM5 hT5 hX5 hnv5 hB5 hsbn hgn b0 b1 b4 HMK
          obtain ⟨i0, hi0, hz0, hz1, hz2⟩ := info_parts info_int
          go_upto_region 11 with fail
          have hd := Only.drew [] w5
          have hMd := HM5.out.plain hd
          have hBd := HB5.out.only hd (by simp)
          have m5 := hMd.blk.cell 5 rfl
          have b5 := hBd.cell 5 rfl
          obtain ⟨gl, hgl0⟩ : ∃ gl, gone0 ++ hnds S0 (goneI (W.drop (q + 1))) = gl := ⟨_, rfl⟩
          have HGLE := Lib.hid hgl0
          rw [hgl0] at HM5 HGL
          clear hgl0
          have hgb : ∀ b, b ∈ gv.ownBlock.toList → base ≤ b ∧ b < sb ∧ b ≠ mb ∧ b ≠ g := fun b hb => by
            have hb : gv.ownBlock = some b := by simpa using hb
            exact ⟨(HM5.out.gown.lt b hb).1, HMVL.out b (Or.inl hb), HM5.out.out b (Or.inl hb), fun e => HU3.out.gg (e ▸ hb)⟩
          have HGB := Lib.hid hgb
          have HF5 : Hid (∀ w6, ((w5.alloc (.cells #[.int .i64 vh] 3)).drew).grownBy w6 gv.ownBlock → Only gv.ownBlock.toList w5 w6) := by
            intro w6 h
            exact ((Only.alloc _ w5 (.cells #[.int .i64 vh] 3)).trans (Only.drew _ _)).trans (Only.of_grown h (by intro k hk; simp [hk]))
          have HB6 : Hid (∀ w6, ((w5.alloc (.cells #[.int .i64 vh] 3)).drew).grownBy w6 gv.ownBlock → Blk w6 mb #[.pointer (some ⟨tb, 0, none⟩), .pointer none, .int .i64 (wd i ((S i).gen + 1)), .int .i64 old, .bool had, gv, mv5] 119) := by
            intro w6 h
            exact HM5.out.blk.only (HF5.out w6 h) (fun hm => (HGB.out mb hm).2.2.1 rfl)
          have HG := Lib.hid HM5.out.gown
          have hgl1 := HGL.out
          have hg0 := HG0.out
          have hbs : base ≤ w5.heap.size := by have := HBW.out; have := HSZ5.out; omega
          have hL1 : gl.length + 1 ≤ maxLen := by unfold maxLen; omega
          have hL2 : (gl.length + 1) * 8 ≤ 140737488355328 := by omega
          have hL3 : base ≤ (w5.alloc (.cells #[.int .i64 vh] 3)).drew.heap.size := by show base ≤ (w5.alloc _).heap.size; simp; omega
          have hL4 : (w5.alloc (.cells #[.int .i64 vh] 3)).drew.heap.size = w5.heap.size + 1 := by show (w5.alloc _).heap.size = _; simp
          have HL4 := Lib.hid hL4
          have m5a : ((w5.alloc (.cells #[.int .i64 vh] 3)).drew).cell? ⟨mb, 5, none⟩ = some gv := ((HM5.out.plain (Only.alloc [] w5 (.cells #[.int .i64 vh] 3))).blk).cell 5 rfl
          have b5a : ((w5.alloc (.cells #[.int .i64 vh] 3)).drew).cell? ⟨sb, 5, none⟩ = some (.int .i64 vh) := (HB5.out.only (Only.alloc [] w5 (.cells #[.int .i64 vh] 3)) (by simp)).cell 5 rfl
          clear hd hMd hBd hgb hL4
          go_region_law (first | (refine step_append_lies _ (by rfl) (.tmp 64) (.tmp 67) 36 (by rfl) base 3 i0 _ 1 8 Try.underlying36 hi0 hz0 hz1 hz2 rfl (by decide) gv _ _ (by rfl) ((HG.out.alloc _).drew) ⟨w5.heap.size, 0, none⟩ 1 1 [.int .i64 vh] (by rfl) (by rfl) (cell_one_new _ _ _) (by simp [Value.oneCell']) Nat.one_pos hL1 hL2 hL3 (w5.heap.size + 1) HL4.out ?_; intro gg capg w6 hown6 hgrow6 hat6 hlt6; have hB6 := HB6.out w6 hgrow6; have m6 := hB6.cell 5 rfl; have f6 := hB6.free 5; clear hB6))
          all_goals
            have HOWN6 := Lib.hid hown6
            have HGR6 := Lib.hid hgrow6
            have HAT6 := Lib.hid hat6
            clear hown6 hgrow6 hat6 hlt6 m5 b5 m5a b5a m6 f6 hL1 hL2 hL3
            go_wp2_with fail
            go_roundg q
          all_goals first
            | (have := HK.out; omega)
            | (refine ⟨q, by omega, rfl, by first | rfl | go_num, upS S i ⟨(S i).gen + 1, 0, 0, sf * 64 + sp + 1, lv, rv, vc + more⟩, r, t + 1, wd i ((S i).gen + 1), .slice (some ⟨gg, 0, none⟩) (gl.length + 1) capg, mv5, Lib.hid ?_⟩
               have hX6 := HF5.out w6 HGR6.out
               have hX7 : Only [mb] w6 (w6.setCell ⟨mb, 5, none⟩ (.slice (some ⟨gg, 0, none⟩) (gl.length + 1) capg)) := Only.setCell _ (by simp) _
               have hgc : (gv.ownBlock = some gg ∨ gg = w5.heap.size + 1) := HAT6.out
               have hs5 := HSZ5.out
               have hmb5 : mb < w5.heap.size := HM5.out.blk.lt
               have hg5 : g < w5.heap.size := HS5.out.lt
               have hgm : gg ≠ mb := by
                 rcases hgc with h | h
                 · exact (HGB.out gg (by simp [h])).2.2.1
                 · omega
               have hgg : gg ≠ g := by
                 rcases hgc with h | h
                 · exact (HGB.out gg (by simp [h])).2.2.2
                 · omega
               have hap : mv5.ownBlock ≠ some gg := by
                 rcases hgc with h | h
                 · exact HM5.out.apart gg h
                 · intro hm; have := (HM5.out.mown.lt gg hm).2; omega
               have htb : tb ∉ gv.ownBlock.toList := fun hm => by have := (HGB.out tb hm).1; have := HSIT.out.t; omega
               have hAn : ∀ k, k ∈ A.all → k ∉ gv.ownBlock.toList := fun k hk hm => by have := (HGB.out k hm).1; have := HSIT.out.a k hk; omega
               rw [← HVC.out]
               refine up_next (gv' := .slice (some ⟨gg, 0, none⟩) (gl.length + 1) capg) HU3.out HF.out HCC.out HW.out HT0.out HRT.out HCUR.out HLAST.out HMORE.out HST.out ?_ ?_ ?_ ?_ ((HS5.out.only hX6 (fun hm => (HGB.out g hm).2.2.2 rfl)).only hX7 (by simp; exact HGM.out)) (fun h => hgg (by simpa [Value.ownBlock] using h)) ?_ ?_
               · rw [← HLV.out, ← HVL.out]
               · rw [← HRV.out, ← HVR.out]
               · rw [HGLE.out, HVH.out]
                 refine ⟨?_, ?_, ?_, ?_, ?_⟩
                 · have := (HB6.out w6 HGR6.out).set_same 5 (.slice (some ⟨gg, 0, none⟩) (gl.length + 1) capg)
                   simpa using this
                 · have := ownsRow_only HOWN6.out hX7 (by intro b hb; simp [Value.ownBlock] at hb; subst hb; simpa using hgm)
                   simpa using this
                 · exact ownsRow_only (ownsRow_only HM5.out.mown hX6 (fun b hb hm => HM5.out.apart b (by simpa using hm) hb)) hX7 (fun b hb => by simp; exact HM5.out.out b (Or.inr hb))
                 · intro b hb hm; simp [Value.ownBlock] at hb; subst hb; exact hap hm
                 · rintro b (hb | hb)
                   · simp [Value.ownBlock] at hb; subst hb; exact hgm
                   · exact HM5.out.out b (Or.inr hb)
               · have := (HT5.out.other hX6 htb hAn).other hX7 (by simp; exact fun e => HSIT.out.m2 e.symm) (fun k hk hm => HSIT.out.m1 (by simp at hm; exact hm ▸ hk))
                 show TrAt _ tb A n (upS S i ⟨(S i).gen + 1, 0, 0, sf * 64 + sp + 1, lv, rv, ((Stp.whole ⟨si, sp, sf, sl, sr, sright⟩).cnt : Nat) + more⟩) (t + 1) r fa
                 rw [HVC.out]
                 exact this
               · intro hm
                 rcases HNV5.out g hm with h | h
                 · exact HU3.out.gm h
                 · have := HU3.out.st.lt; omega
               · exact (HO5.out.past hX6 (fun b hb => Or.inr (by have := (HGB.out b hb).1; rw [← HBS.out]; exact this))).past hX7 (fun b hb => Or.inr (by simp at hb; subst hb; rw [← HBS.out]; exact HMBB.out)))

    · have hm00 : m = 0 := by omega
      subst hm00
      clear hm0
      go_wp2_with fail
      go_ret
      left
      have h := HU.out
      have h1 := h.me
      have h2 := h.mg
      have h3 := h.rep
      have h4 := h.wf
      have h5 := h.root
      rw [Nat.sub_zero] at h1 h2
      rw [List.drop_zero] at h1 h3 h4 h5
      subst h5
      have h6 := h2.rest
      have h7 := h.tr
      subst h6
      have e1 : k + W.length - 0 = k + W.length := Nat.sub_zero _
      refine ⟨rfl, h2.le, S, t, gv, mv, h1, h7, h2, h3, h4, h.only⟩

end Go.Proofs.Ytacegkjobfeiiaa

