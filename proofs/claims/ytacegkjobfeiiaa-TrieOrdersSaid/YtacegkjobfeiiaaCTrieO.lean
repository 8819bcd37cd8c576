/- A leaf beside a node, below a new one: splits as a call. Conditions: the pool stands in memory as PoolAt says, the edit on its way as MSt says. -/
import Derived.Test.YtacegkjobfeiiaaCTrieN
set_option linter.unusedVariables false
set_option linter.unusedSimpArgs false
set_option linter.unusedSectionVars false
set_option linter.unnecessarySimpa false
namespace Go.Proofs.Ytacegkjobfeiiaa
open Go.RowKit

theorem enter_leaf (k v : Int) (w : World) : (callFunc 116 #[.agg #[.int .i64 k, .int .i64 v]]).run Try.prog w = .ok (.enter 116 #[.agg #[.int .i64 k, .int .i64 v]]) w := by kernel_rfl
theorem enter_inner (p f l r c : Int) (w : World) : (callFunc 85 #[.agg #[.int .i64 p, .int .i64 f, .int .i64 l, .int .i64 r, .int .i64 c]]).run Try.prog w = .ok (.enter 85 #[.agg #[.int .i64 p, .int .i64 f, .int .i64 l, .int .i64 r, .int .i64 c]]) w := by kernel_rfl

theorem span_meth (S : Nat → Sl) {x : Tr} (h : x.wf) : ∃ ty sv f, shV S x = .iface ty sv ∧ (∀ w, (method 316 ty sv "skein/trie.span").run Try.prog w = .ok (f, sv) w) ∧ (∀ w, (callFunc f #[sv]).run Try.prog w = .ok (.enter f #[sv]) w) ∧ ∀ w, Calls Try.prog f #[sv] w fun e w' => e = .returned (.tuple #[.int .i64 x.lo, .int .i64 x.hi]) ∧ Only [] w w' := by
  cases x with
  | leaf i k v => exact ⟨_, _, _, rfl, fun w => meth_leaf k v w, fun w => enter_leaf k v w, fun w => leaf_span k v w⟩
  | node i p f l r =>
    obtain ⟨hp, _, hf0, hfM, _⟩ := h
    have := pw_pos (p + 1)
    exact ⟨_, _, _, rfl, fun w => meth_inner p f _ _ _ w, fun w => enter_inner p f _ _ _ w, fun w => inner_span p f _ _ _ hp ⟨hf0, by omega⟩ w⟩

/-- A leaf and a node were made. -/
def SplOk (A : PA) (n : Nat) (S0 : Nat → Sl) (fs0 : List Nat) (t0 fa : Int) (tb mb base : Nat) (old : Int) (had : Bool) (gone : List Int) (wS : World) (gv mv : Value) (nn : Tr) (k v : Int) (w : World) (e : Ending) (w' : World) : Prop :=
  e = .returned (.int .i64 0) ∧ ∃ p j0 j1 r S2 t2 mv', Plc k nn.lo p ∧ fs0 = j0 :: j1 :: r ∧ MSt A n S0 fs0 t0 fa tb mb base old had gone wS 2 S2 r t2 (hnd S2 (fork j1 p (nn.lo / pw (p + 1) * pw (p + 1)) k (.leaf j0 k v) nn)) gv mv' w' ∧ Rep n S2 (fork j1 p (nn.lo / pw (p + 1) * pw (p + 1)) k (.leaf j0 k v) nn) ∧ (fork j1 p (nn.lo / pw (p + 1) * pw (p + 1)) k (.leaf j0 k v) nn).wf ∧ Only (mb :: (mv.ownBlock.toList ++ A.all)) w w' ∧ ∀ b, mv'.ownBlock = some b → mv.ownBlock = some b ∨ w.heap.size ≤ b

set_option maxRecDepth 100000 in
set_option maxHeartbeats 4000000 in
theorem trie_splits {A : PA} {n : Nat} {S0 : Nat → Sl} {fs0 : List Nat} {t0 fa c0 : Int} {tb mb base : Nat} {old : Int} {had : Bool} {gone : List Int} {wS : World} {root : Int} {gv mv : Value} {w : World} {nn : Tr} {k v : Int}
    (h : MSt A n S0 fs0 t0 fa tb mb base old had gone wS 0 S0 fs0 t0 root gv mv w) (E : Ed A n S0 fs0 t0 c0 tb mb base wS) (wf : nn.wf) (R : Rep n S0 nn) (hk : 0 ≤ k ∧ k ≤ 4294967295) (hne : ¬ (nn.lo ≤ k ∧ k ≤ nn.hi)) :
    Calls Try.prog 45 #[.pointer (some ⟨mb, 0, none⟩), ndV S0 nn, .int .i64 k, .int .i64 v] w fun e w' => SplOk A n S0 fs0 t0 fa tb mb base old had gone wS gv mv nn k v w e w' ∨ UpNo A n S0 fs0 t0 fa tb mb 2 wS e w' := by
  obtain ⟨ty, sv, fm, hsv, hme, hen, hsp⟩ := span_meth S0 wf
  have hcnt := node_count S0 nn
  rw [ndV_agg, hsv] at hcnt ⊢
  have HSV := Lib.hid hsv
  have HSP := Lib.hid hsp
  have HCNT := Lib.hid hcnt
  have HH := Lib.hid h
  have HE := Lib.hid E
  have HWF := Lib.hid wf
  have HR := Lib.hid R
  have HKK := Lib.hid hk
  have HNE := Lib.hid hne
  have hsn := Tr.wf_span wf
  obtain ⟨hl0, hl1, hl2⟩ := hsn
  have hlne : k ≠ nn.lo := fun e => hne ⟨by omega, by omega⟩
  have HPL := Lib.hid (fun w => word_place k nn.lo hk ⟨hl0, by omega⟩ hlne w)
  have hcb := wf_cnt_le wf
  have hcp : (0 : Int) ≤ (nn.cnt : Nat) := by omega
  clear hsv hsp hcnt h E wf R hne hlne
  generalize hhn : hnd S0 nn = hn at *
  generalize hlo : nn.lo = lo at *
  generalize hct : ((nn.cnt : Nat) : Int) = ct at *
  have HHN := Lib.hid hhn
  have HLO := Lib.hid hlo
  have HCT := Lib.hid hct
  clear hhn hlo hct
  go_enter Try.func45, Try.ntmps45
  go_upto_region 1 with fail
  refine wp_name (fun w1 => MSt A n S0 fs0 t0 fa tb mb base old had gone wS 0 S0 fs0 t0 root gv mv w1 ∧ Blk w1 w.heap.size #[.int .i64 hn, .iface ty sv] 125 ∧ Only [] w w1) ⟨HH.out.plain (Only.alloc _ _ _), Blk.new _ _ _, Only.alloc _ _ _⟩ ?_
  have hxb : mb < w.heap.size ∧ base ≤ w.heap.size := ⟨HH.out.me.lt, by rw [HE.out.bS]; exact HH.out.only.size⟩
  have hmvl : ∀ b, mv.ownBlock = some b → b < w.heap.size := fun b hb => (HH.out.me.mown.lt b hb).2
  have HMVL := Lib.hid hmvl
  clear hmvl
  obtain ⟨xb, hxbe⟩ : ∃ xb, w.heap.size = xb := ⟨_, rfl⟩
  have HXB := Lib.hid hxbe
  rw [hxbe] at hxb ⊢
  clear hxbe
  obtain ⟨hxb1, hxb2⟩ := hxb
  rintro w1 ⟨hM1, hB1, hO1⟩
  have HXS : Hid (xb < w1.heap.size) := Lib.hid hB1.lt
  have HB1 := Lib.hid hB1
  have HM1 := Lib.hid hM1
  have HO1 := Lib.hid hO1
  clear hM1 hB1 hO1
  go_wp2_with fail
  refine (mst_leaf HM1.out HE.out).mono ?_
  rintro e w2 ⟨_, _, ⟨rfl, j0, r0, mv1, hfs, hM2, hX2, hn2⟩ | ⟨rfl, hU⟩⟩
  · have HFS := Lib.hid hfs
    have HM2 := Lib.hid hM2
    have HX2 := Lib.hid ((HO1.out.mono (by simp)).trans hX2)
    have HN2 := Lib.hid hn2
    have hxn : xb ∉ mb :: (mv.ownBlock.toList ++ A.all) := by
      intro hm
      simp only [List.mem_cons, List.mem_append] at hm
      rcases hm with hm | hm | hm
      · omega
      · have := HMVL.out xb (by simpa using hm); have := HXB.out; omega
      · have := HE.out.sit.a xb hm; omega
    have hB2 := HB1.out.only hX2 hxn
    have HB2 := Lib.hid hB2
    have b0 := hB2.cell 0 rfl
    have b1 := hB2.cell 1 rfl
    clear hfs hM2 hX2 hn2 hxn hB2 HB1
    go_wp2_with fail
    refine (HSP.out _).mono ?_
    rintro e w3 ⟨rfl, hX3⟩
    have HB3 := Lib.hid (HB2.out.only hX3 (by simp))
    have HM3 := Lib.hid (HM2.out.plain hX3)
    have HX3 := Lib.hid (HX2.out.trans (hX3.mono (by simp)))
    clear hX3 b0 b1 HB2 HM2 HX2 hme hen
    go_wp2_with fail
    refine (HPL.out _).mono ?_
    rintro e w4 ⟨⟨p, rfl, hplc⟩, rfl⟩
    have HPLC := Lib.hid hplc
    have hp32 := hplc.lt hk ⟨hl0, by omega⟩
    clear hplc
    have b0 := HB3.out.cell 0 rfl
    have b1 := HB3.out.cell 1 rfl
    have m2 := HM3.out.me.blk.cell 2 rfl
    clear HPL
    obtain ⟨lv, hlv⟩ : ∃ lv, (if k < lo then wd j0 ((S0 j0).gen + 1) else hn) = lv := ⟨_, rfl⟩
    obtain ⟨rv, hrv⟩ : ∃ rv, (if k < lo then hn else wd j0 ((S0 j0).gen + 1)) = rv := ⟨_, rfl⟩
    have HLV := Lib.hid hlv
    have HRV := Lib.hid hrv
    clear hlv hrv
    generalize hnw : wd (j0 : Int) ((S0 j0).gen + 1) = nw at *
    have HNW := Lib.hid hnw
    clear hnw
    go_upto_region 6 with fail
    go_quiet (fail)
    go_upto_if 44 with fail
    refine wp_name (fun w5 => Only [] w3 w5) (Only.drewN _ _ _) ?_
    rintro w5 hX5
    have hM5 := HM3.out.plain hX5
    have HM5 := Lib.hid hM5
    have hB5 := HB3.out.only hX5 (by simp)
    have HB5 := Lib.hid hB5
    have HX5 := Lib.hid (HX3.out.trans (hX5.mono (by simp)))
    have b0 := hB5.cell 0 rfl
    have b1 := hB5.cell 1 rfl
    have m2 := hM5.me.blk.cell 2 rfl
    clear hX5 hM5 hB5 HM3 HB3 HX3
    go_cut [14, 15] (fun s14 s15 wc => s14 = .int .i64 lv ∧ s15 = .int .i64 rv ∧ Only [] w5 wc)
    case first =>
      by_cases hlt : k < lo
      · rw [if_pos hlt] at HLV HRV
        rw [decide_eq_true hlt]
        go_wp2_with fail
        go_quiet (fail)
        go_wp2_with fail
        go_meet
        case rel => exact ⟨by rw [← HLV.out], by rw [← HRV.out], Only.drewN [] _ _⟩
      · rw [if_neg hlt] at HLV HRV
        rw [decide_eq_false hlt]
        go_wp2_with fail
        go_meet
        case rel => exact ⟨by rw [← HLV.out], by rw [← HRV.out], Only.refl _ _⟩
    case rest =>
      obtain ⟨rfl, rfl, hX6⟩ := hcut
      have hM6 := HM5.out.plain hX6
      have HM6 := Lib.hid hM6
      have HB6 := Lib.hid (HB5.out.only hX6 (by simp))
      have HX6 := Lib.hid (HX5.out.trans (hX6.mono (by simp)))
      clear hX6 hM6 HM5 HB5 HX5 b0 b1 m2
      have hdr := Only.drew [] wc
      have HM7 := Lib.hid (HM6.out.plain hdr)
      have HX7 := Lib.hid (HX6.out.trans (hdr.mono (by simp)))
      have hB7 := HB6.out.only hdr (by simp)
      have b0 := hB7.cell 0 rfl
      have b1 := hB7.cell 1 rfl
      clear hdr hB7
      have hw1 : IntKind.i64.wrap ((p : Int) + 1) = (p : Int) + 1 := IntWalk.i64_in _ ⟨by omega, by omega⟩
      have hw2 : IntKind.i64.wrap (ct + 1) = ct + 1 := IntWalk.i64_in _ ⟨by omega, by omega⟩
      have hf3 := fork_wf (n := nn) (p := p) hk HWF.out (by rw [HLO.out]; exact HNE.out) (by rw [HLO.out]; exact HPLC.out)
      have HF3 := Lib.hid hf3
      obtain ⟨fv, hfv⟩ : ∃ fv, lo / pw (p + 1) * pw (p + 1) = fv := ⟨_, rfl⟩
      have hfr : 0 ≤ fv ∧ fv ≤ 4294967295 := by
        have := (Tr.wf_span (hf3 0 0 0).1)
        rw [(fork_span _ _ _ _ _ _).1, (fork_span _ _ _ _ _ _).2, HLO.out, hfv] at this
        omega
      have hs1 : ∀ w, (binOp .shr 3 (.int .i64 lo) (.int .i64 ((p : Int) + 1))).run Try.prog w = .ok (.int .i64 (lo / pw (p + 1))) w := fun w => by
        have := shr_any 3 lo (p + 1) ⟨hl0, by omega⟩ (by omega) w
        simpa using this
      have hs2 : ∀ w, (binOp .shl 3 (.int .i64 (lo / pw (p + 1))) (.int .i64 ((p : Int) + 1))).run Try.prog w = .ok (.int .i64 fv) w := fun w => by
        have := shl_any 3 (lo / pw (p + 1)) (p + 1) (by rw [hfv]; exact hfr) (by omega) w
        rw [hfv] at this
        simpa using this
      have hsx : IntKind.i64.wrap (lo / 2 ^ (p + 1) * 2 ^ (p + 1)) = fv := by
        rw [pw_cast, hfv]; exact IntWalk.i64_in _ ⟨by omega, by omega⟩
      have HSX := Lib.hid hsx
      have HFV := Lib.hid hfv
      have HMV1 : Hid (∀ w8 w9, Only [] wc.drew w8 → Only (mb :: (mv1.ownBlock.toList ++ A.all)) w8 w9 → w9.cell? ⟨xb, 0, none⟩ = some (.int .i64 hn) ∧ w9.cell? ⟨xb, 1, none⟩ = some (.iface ty sv)) := by
        intro w8 w9 h8 h9
        have hn : xb ∉ mb :: (mv1.ownBlock.toList ++ A.all) := by
          intro hm
          simp only [List.mem_cons, List.mem_append] at hm
          rcases hm with hm | hm | hm
          · omega
          · rcases HN2.out xb (by simpa using hm) with h | h
            · have := HMVL.out xb h; have := HXB.out; omega
            · have := HXS.out; omega
          · have := HE.out.sit.a xb hm; omega
        have hb := ((HB6.out.only (Only.drew [] wc) (by simp)).only h8 (by simp)).only h9 hn
        exact ⟨hb.cell 0 rfl, hb.cell 1 rfl⟩
      have HFR := Lib.hid hfr
      clear hf3 hfv hfr hsx hs1 hs2
      go_wp2_with fail
      go_region_held3 (fun w' => w'.cell? ⟨xb, 0, none⟩ = some (.int .i64 hn) ∧ w'.cell? ⟨xb, 1, none⟩ = some (.iface ty sv))
        (first | exact ⟨b0, b1⟩ | exact ⟨keep_cell hX8 b0, keep_cell hX8 b1⟩ | exact HMV1.out _ _ hX8 hX9)
        (first | (go_at_call 53; refine (HCNT.out _).mono ?_; rintro e w8 ⟨rfl, hX8⟩) | (go_at_call 73; rw [HSX.out]; refine (mst_fork hp32 HFR.out (HM7.out.plain hX8) HE.out).mono ?_; rintro e w9 ⟨⟨x9, rfl⟩, hX9, hP9⟩))
      all_goals go_wp2_with fail
      clear b0 b1 hw1 hw2
      go_ret
      rcases hP9 with ⟨h1, j1, r, mv2, hfs, hM9, hX, hnb⟩ | hU
      · left
        have hF1 := HM6.out.mg.fre HE.out.fre
        have hcc := HE.out.hc
        have hs0 := HE.out.fre.spare (by omega) (show j0 ∈ fs0 by rw [HFS.out]; simp)
        have hs1 := hF1.spare (by omega) (show j1 ∈ r0 by rw [hfs]; simp)
        have hrl := rep_leaf hs0 k v
        have hrn := HR.out.kept hs0 ⟨(S0 j0).gen + 1, 0, 0, 0, k, v, 1⟩
        rw [HHN.out] at hrn
        have hhl : hnd (upS S0 j0 ⟨(S0 j0).gen + 1, 0, 0, 0, k, v, 1⟩) (.leaf j0 k v) = nw := by
          unfold hnd
          show wd j0 ((upS S0 j0 _) j0).gen = nw
          rw [upS_same, ← HNW.out]
        have hct1 : ct + 1 = ((nn.cnt + 1 : Nat) : Int) := by rw [← HCT.out]; omega
        refine ⟨h1, p, j0, j1, r, upS (upS S0 j0 ⟨(S0 j0).gen + 1, 0, 0, 0, k, v, 1⟩) j1 ⟨((upS S0 j0 ⟨(S0 j0).gen + 1, 0, 0, 0, k, v, 1⟩) j1).gen + 1, 0, 0, fv * 64 + p + 1, lv, rv, ct + 1⟩, t0 + 1 + 1, mv2, by rw [HLO.out]; exact HPLC.out, by rw [HFS.out, hfs], ?_, ?_, ?_, ?_, ?_⟩
        · have e : hnd (upS (upS S0 j0 ⟨(S0 j0).gen + 1, 0, 0, 0, k, v, 1⟩) j1 ⟨((upS S0 j0 ⟨(S0 j0).gen + 1, 0, 0, 0, k, v, 1⟩) j1).gen + 1, 0, 0, fv * 64 + p + 1, lv, rv, ct + 1⟩) (fork j1 p (nn.lo / pw (p + 1) * pw (p + 1)) k (.leaf j0 k v) nn) = wd j1 (((upS S0 j0 ⟨(S0 j0).gen + 1, 0, 0, 0, k, v, 1⟩) j1).gen + 1) := by
            unfold hnd
            have : (fork j1 p (nn.lo / pw (p + 1) * pw (p + 1)) k (.leaf j0 k v) nn).slot = j1 := by
              unfold fork; split <;> rfl
            rw [this, upS_same]
          rw [e]
          exact hM9
        · rw [HLO.out, HFV.out]
          by_cases hlt : k < nn.lo
          · unfold fork
            rw [if_pos hlt]
            have e1 : lv = nw := by rw [← HLV.out, if_pos (by rw [← HLO.out]; exact hlt)]
            have e2 : rv = hn := by rw [← HRV.out, if_pos (by rw [← HLO.out]; exact hlt)]
            have := rep_node hs1 hrl hrn.1 p fv (ct + 1) (by rw [hct1]; simp only [Tr.cnt]; omega)
            rw [hhl, hrn.2] at this
            rw [e1, e2]
            exact this
          · unfold fork
            rw [if_neg hlt]
            have e1 : rv = nw := by rw [← HRV.out, if_neg (by rw [← HLO.out]; exact hlt)]
            have e2 : lv = hn := by rw [← HLV.out, if_neg (by rw [← HLO.out]; exact hlt)]
            have := rep_node hs1 hrn.1 hrl p fv (ct + 1) (by rw [hct1]; simp only [Tr.cnt])
            rw [hhl, hrn.2] at this
            rw [e1, e2]
            exact this
        · exact (HF3.out j0 j1 v).1
        · refine ((HX7.out.trans (hX8.mono (by simp))).past hX9 ?_)
          intro b hb
          simp only [List.mem_cons, List.mem_append] at hb ⊢
          rcases hb with hb | hb | hb
          · exact Or.inl (Or.inl hb)
          · rcases HN2.out b (by simpa using hb) with h | h
            · exact Or.inl (Or.inr (Or.inl (by simp [h])))
            · right
              have := HO1.out.size
              omega
          · exact Or.inl (Or.inr (Or.inr hb))
        · intro b hb
          rcases hnb b hb with h | h
          · rcases HN2.out b h with h | h
            · exact Or.inl h
            · have := HO1.out.size
              exact Or.inr (by omega)
          · have h1 := (HX7.out.trans (hX8.mono (by simp))).size
            exact Or.inr (by omega)
      · right
        obtain ⟨h1, h2, h3⟩ := hU
        exact ⟨h1, by omega, h3⟩
  · have HU := Lib.hid hU
    clear hU
    go_wp2_with fail
    go_ret
    right
    obtain ⟨h2, h3⟩ := HU.out
    exact ⟨rfl, by omega, h3⟩

end Go.Proofs.Ytacegkjobfeiiaa

