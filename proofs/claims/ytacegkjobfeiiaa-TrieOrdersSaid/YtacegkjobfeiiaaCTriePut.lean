/- Put as a call, in a map that holds something. Conditions: the pool stands in memory as PoolAt says, the map in it as Rep says. -/
import Derived.Test.YtacegkjobfeiiaaCTrieQ
set_option linter.unusedVariables false
set_option linter.unusedSimpArgs false
set_option linter.unusedSectionVars false
set_option linter.unnecessarySimpa false
namespace Go.Proofs.Ytacegkjobfeiiaa
open Go.RowKit

set_option maxRecDepth 100000 in
set_option maxHeartbeats 4000000 in
theorem put_some_x {A : PA} {n : Nat} {S0 : Nat → Sl} {fs0 : List Nat} {t0 fa c0 : Int} {tb : Nat} {x : Tr} {k v : Int} {w : World} (T : TrAt w tb A n S0 t0 fs0 fa) (F : Fre n S0 fs0 c0) (hc : c0 < 999998) (ht : t0 + 2 * fs0.length ≤ 1000000) (R : Rep n S0 x) (wf : x.wf) (hk : 0 ≤ k ∧ k ≤ 4294967295) :
    Calls Try.prog 20 #[.pointer (some ⟨tb, 0, none⟩), .pointer none, .int .i64 (hnd S0 x), .int .i64 k, .int .i64 v] w fun e w' => EdOkX (PutIs fs0 x k v) A n S0 fs0 t0 fa tb (some x) (oldOf x.pairs k) (hadOf x.pairs k) (ins x.pairs k v) w e w' ∨ EdNoX (2 + (down x k).1.length) A n S0 fs0 t0 fa tb w e w' := by
  have hez := edit_zero
  have hka : isK k = true := by simp [isK]; exact hk
  have HKEY := Lib.hid (fun w => trie_key k w)
  rw [hka] at HKEY
  have hx0 : (hnd S0 x == 0) = false := by have := hnd_pos R; simp; omega
  have HDN := Lib.hid (fun w T => trie_down (w := w) (A := A) (n := n) (S := S0) (t := t0) (fs := fs0) (fa := fa) (tb := tb) (k := k) T R wf)
  have HT := Lib.hid T
  have HF := Lib.hid F
  have HC := Lib.hid hc
  have HTT := Lib.hid ht
  have HR := Lib.hid R
  have HWF := Lib.hid wf
  have HKK := Lib.hid hk
  have hnn := T.pool.many.2
  have HLT := Lib.hid T.lt
  have HNN := Lib.hid hnn
  clear T F hc ht R wf hka hk hnn
  generalize hhx : hnd S0 x = hx at *
  have HHX := Lib.hid hhx
  clear hhx
  go_enter Try.func20, Try.ntmps20
  go_wp2_with fail
  refine (HKEY.out _).mono ?_
  rintro e w1 ⟨rfl, rfl⟩
  go_wp2_with fail
  obtain ⟨wA, hwA⟩ : ∃ wA, w.alloc (.cells #[.int .i64 0, .int .i64 0, .bool false, .slice none 0 0, .slice none 0 0] 38) = wA := ⟨_, rfl⟩
  have HWA : Hid (wA.heap.size = w.heap.size + 1 ∧ Only [] w wA ∧ Blk wA w.heap.size #[.int .i64 0, .int .i64 0, .bool false, .slice none 0 0, .slice none 0 0] 38) := by
    subst hwA
    exact Lib.hid ⟨by simp, Only.alloc _ _ _, Blk.new _ _ _⟩
  rw [hwA]
  refine calls_name (fun w1 => TrAt w1 tb A n S0 t0 fs0 fa ∧ Blk w1 w.heap.size #[.int .i64 0, .int .i64 0, .bool false, .slice none 0 0, .slice none 0 0] 38 ∧ Blk w1 (w.heap.size + 1) #[.pointer (some ⟨tb, 0, none⟩), .pointer none, .int .i64 0, .int .i64 0, .bool false, .slice none 0 0, .slice none 0 0] 119 ∧ Only [] wA w1) ⟨HT.out.plain (HWA.out.2.1.trans (Only.alloc [] _ _)), HWA.out.2.2.alloc _, ?_, Only.alloc [] _ _⟩ ?_
  · have := Blk.new wA #[.pointer (some ⟨tb, 0, none⟩), .pointer none, .int .i64 0, .int .i64 0, .bool false, .slice none 0 0, .slice none 0 0] 119
    rw [HWA.out.1] at this
    exact this
  clear hwA
  rintro w1 ⟨hT1, hR1, hM1, hO1⟩
  obtain ⟨rb, hrb⟩ : ∃ rb, w.heap.size = rb := ⟨_, rfl⟩
  have HRB := Lib.hid hrb
  rw [hrb] at hR1 hM1 HWA ⊢
  clear hrb
  have hm1s : rb + 1 < w1.heap.size := hM1.lt
  have HR1 := Lib.hid hR1
  have HM1 := Lib.hid hM1
  have HO1 := Lib.hid hO1
  clear hR1 hM1 hO1
  refine (HDN.out w1 hT1).mono ?_
  rintro e w2 ⟨way, rfl, hown, hX2⟩
  obtain ⟨ad, cap, rfl, hcap, hway⟩ := own_steps hown
  have hway2 : ∃ g, rb ≤ g ∧ g ≠ rb + 1 ∧ WayOk w2 S0 ad g (down x k).1 := by
    rcases hway with ⟨h1, h2⟩ | ⟨g, h1, h2, h3⟩
    · exact ⟨rb, Nat.le_refl _, by omega, ⟨Nat.lt_of_lt_of_le (by omega) hX2.size, Or.inl h1⟩⟩
    · exact ⟨g, by omega, by omega, ⟨h3.lt, Or.inr ⟨h1, h3⟩⟩⟩
  obtain ⟨g, hg1, hg2, hg3⟩ := hway2
  have HG3 := Lib.hid hg3
  have HT2 := Lib.hid (hT1.plain hX2)
  have HR2 := Lib.hid (HR1.out.only hX2 (by simp))
  have HM2 := Lib.hid (HM1.out.only hX2 (by simp))
  have HO2 := Lib.hid (HO1.out.trans hX2)
  have HM2S : Hid (rb + 1 < w2.heap.size) := Lib.hid (Nat.lt_of_lt_of_le hm1s hX2.size)
  clear hT1 hown hX2 hway hg3 HR1 HM1 HO1 hm1s hcap HDN
  obtain ⟨W, hW⟩ : ∃ W, (down x k).1 = W := ⟨_, rfl⟩
  obtain ⟨nn, hnn⟩ : ∃ nn, (down x k).2 = nn := ⟨_, rfl⟩
  have HW := Lib.hid hW
  have HN := Lib.hid hnn
  obtain ⟨ty, sv, hsv⟩ := shV_one S0 nn
  have HSV := Lib.hid hsv
  rw [hW] at HG3 ⊢
  rw [hnn, ndV_agg, hsv]
  have hWl : W.length ≤ 32 := by
    have h1 := down_len x k HWF.out
    have h2 := rk_le HWF.out
    rw [hW] at h1
    omega
  clear hW hnn hsv
  generalize hhn : hnd S0 nn = hn at *
  have HHN := Lib.hid hhn
  clear hhn
  obtain ⟨a0, v0, ok, hta, hok1, hok2⟩ := assertL_any S0 nn
  have hta := hta ty sv HSV.out
  have HOK1 := Lib.hid hok1
  have HOK2 := Lib.hid hok2
  clear hok1 hok2
  go_upto_region 12 with fail
  obtain ⟨nb, hnb⟩ : ∃ nb, w2.heap.size = nb := ⟨_, rfl⟩
  have HNB := Lib.hid hnb
  refine wp_name (fun w3 => TrAt w3 tb A n S0 t0 fs0 fa ∧ Blk w3 rb #[.int .i64 0, .int .i64 0, .bool false, .slice none 0 0, .slice none 0 0] 38 ∧ Blk w3 (rb + 1) #[.pointer (some ⟨tb, 0, none⟩), .pointer none, .int .i64 0, .int .i64 0, .bool false, .slice none 0 0, .slice none 0 0] 119 ∧ Blk w3 nb #[.int .i64 hn, .iface ty sv] 125 ∧ Blk w3 (nb + 1) #[.int .i64 a0, .int .i64 v0] 129 ∧ WayOk w3 S0 ad g W ∧ Only [] wA w3) ?_ ?_
  · have o2 : ∀ o1 o2, Only [] w2 ((w2.alloc o1).alloc o2) := fun o1 o2 => (Only.alloc [] _ o1).trans (Only.alloc [] _ o2)
    refine ⟨HT2.out.plain (o2 _ _), HR2.out.only (o2 _ _) (by simp), HM2.out.only (o2 _ _) (by simp), ?_, ?_, HG3.out.only (o2 _ _) (by simp), HO2.out.trans (o2 _ _)⟩
    · have := (Blk.new w2 #[.int .i64 hn, .iface ty sv] 125).alloc (.cells #[.int .i64 a0, .int .i64 v0] 129)
      rw [hnb] at this
      exact this
    · have := Blk.new (w2.alloc (.cells #[.int .i64 hn, .iface ty sv] 125)) #[.int .i64 a0, .int .i64 v0] 129
      have e : (w2.alloc (.cells #[.int .i64 hn, .iface ty sv] 125)).heap.size = nb + 1 := by rw [← hnb]; simp
      rw [e] at this
      exact this
  have hnbl : rb + 1 < nb ∧ g < nb := by
    rw [← hnb]
    exact ⟨HM2S.out, HG3.out.1⟩
  rw [hnb]
  clear hnb hta HT2 HR2 HM2 HG3 HO2 HM2S
  obtain ⟨hnb1, hnb2⟩ := hnbl
  rintro w3 ⟨hT3, hR3, hM3, hN3, hL3, hG3, hO3⟩
  have HT3 := Lib.hid hT3
  have HR3 := Lib.hid hR3
  have HM3 := Lib.hid hM3
  have HN3 := Lib.hid hN3
  have HL3 := Lib.hid hL3
  have HG3 := Lib.hid hG3
  have HO3 := Lib.hid hO3
  have l0 := hL3.cell 0 rfl
  have l1 := hL3.cell 1 rfl
  clear hT3 hR3 hM3 hN3 hL3 hG3 hO3
  obtain ⟨hit, hhit⟩ : ∃ hit : Bool, (ok && a0 == k) = hit := ⟨_, rfl⟩
  have HHIT := Lib.hid hhit
  clear hhit
  go_cut [66] (fun s66 wc => s66 = .bool hit ∧ w3 = wc)
  case first =>
    cases ok
    · go_wp2_with fail
      go_meet
      case rel => exact ⟨by rw [← HHIT.out]; rfl, rfl⟩
    · by_cases hak : a0 = k
      · have hb : (a0 == k) = true := by simp [hak]
        rw [hb] at HHIT
        go_wp2_with fail
        go_meet
        case rel => exact ⟨by rw [← HHIT.out]; rfl, rfl⟩
      · have hb : (a0 == k) = false := by simp [hak]
        rw [hb] at HHIT
        clear hak
        go_wp2_with fail
        go_meet
        case rel => exact ⟨by rw [← HHIT.out]; rfl, rfl⟩
  case rest =>
    obtain ⟨rfl, rfl⟩ := hcut
    have HAL : Hid (∀ k, k ∈ A.all → k < rb) := Lib.hid (fun k hk => by have := HLT.out.2 k hk; have := HRB.out; omega)
    have HSIT : Hid (Sit (rb + 1) tb (rb + 1) A) := by
      obtain ⟨h1, h2⟩ := HLT.out
      have h3 := HRB.out
      exact Lib.hid ⟨fun hm => by have := h2 _ hm; omega, by omega, fun k hk => by have := h2 k hk; omega, by omega, HT3.out.off⟩
    have HE : Hid (Ed A n S0 fs0 t0 c0 tb (rb + 1) (rb + 1) wA) := Lib.hid ⟨HSIT.out, HF.out, HC.out, HTT.out, HNN.out, Nat.le_refl _, HWA.out.1.symm⟩
    go_upto_if 66 with fail
    go_cut [16, 17] (fun s16 s17 wc => PutMid A n S0 fs0 t0 fa tb (rb + 1) (rb + 1) g ad x k v (oldOf x.pairs k) (hadOf x.pairs k) wA s16 s17 wc)
    case first =>
      cases hit
      · have hmiss : ∀ i v, nn ≠ .leaf i k v := by
          intro i v h
          have h1 := HHIT.out
          have h2 := HOK1.out
          have h3 := HOK2.out
          cases ok with
          | false => exact h3 rfl i k v h
          | true =>
            obtain ⟨i2, h4⟩ := h2 rfl
            rw [h] at h4
            injection h4 with _ h5 _
            simp [← h5] at h1
        have hoff := way_off (x := x) (k := k) (by rw [HN.out]; exact hmiss)
        have hno := way_none HWF.out (k := k) (by rw [HN.out]; exact hmiss)
        rw [HN.out] at hoff
        have hwr := way_rep (down_way x k) HR.out
        rw [HN.out] at hwr
        have hww := way_wf (down_way x k) HWF.out
        rw [HN.out] at hww
        have hms : Hid (MSt A n S0 fs0 t0 fa tb (rb + 1) (rb + 1) 0 false [] wA 0 S0 fs0 t0 0 (.slice none 0 0) (.slice none 0 0) w3) := Lib.hid ⟨⟨HM3.out, World.ownsRow_nil _ _ _ _, by simpa [mds] using World.ownsRow_nil w3 (rb + 1) 3 1, fun b hb => by simp [Value.ownBlock] at hb, fun b hb => by simp [Value.ownBlock] at hb⟩, HT3.out, Mg.zero _ _ _, HO3.out.mono (by simp)⟩
        have HSP := Lib.hid (trie_splits (k := k) (v := v) hms.out HE.out hww.1 hwr.1 HKK.out hoff)
        rw [ndV_agg, HSV.out, HHN.out] at HSP
        have HNO := Lib.hid hno
        have HMISS := Lib.hid hmiss
        have HOFF := Lib.hid hoff
        have HWW := Lib.hid hww
        have n0 := HN3.out.cell 0 rfl
        have n1 := HN3.out.cell 1 rfl
        clear hmiss hoff hno hwr hww l0 l1
        go_wp2_with fail
        refine HSP.out.mono ?_
        rintro e w5 (⟨rfl, p, j0, j1, r, S2, t2, mv2, hpl, hfs, hM5, hR5, hwf5, hX5, hnb5⟩ | hU)
        · have hgn : g ∉ (rb + 1) :: ((Value.slice none 0 0).ownBlock.toList ++ A.all) := by
            intro hm
            simp [Value.ownBlock] at hm
            rcases hm with h | h
            · exact hg2 h
            · have := HAL.out g h; omega
          have HG5 := Lib.hid (HG3.out.only hX5 hgn)
          have hgm : mv2.ownBlock ≠ some g := by
            intro h
            rcases hnb5 g h with h | h
            · simp [Value.ownBlock] at h
            · have := HG3.out.1; omega
          have HP := Lib.hid hpl
          have HFS := Lib.hid hfs
          have HM5 := Lib.hid hM5
          have HRR := Lib.hid hR5
          have HWF5 := Lib.hid hwf5
          have HGM := Lib.hid hgm
          clear hpl hfs hM5 hR5 hwf5 hX5 hnb5 hgn hgm n0 n1
          go_wp2_with fail
          go_meet
          case rel =>
            refine ⟨1, rfl, Or.inl ⟨rfl, 2, _, S2, r, t2, .slice none 0 0, mv2, [], nn.slots, ?_, HRR.out, HWF5.out, ?_, ?_, by omega, by omega, by simp, by simp [Value.ownBlock], HGM.out, ?_, ?_, by simp, Nat.le_refl _, ?_, ?_, by rw [HN.out]; exact Or.inr ⟨j0, j1, r, p, HMISS.out, HFS.out, rfl, rfl, HP.out, rfl⟩⟩⟩
            · rw [HNO.out.1, HNO.out.2]; exact HM5.out
            · intro s hs
              have hon := on_mem (down_on x k) (List.mem_of_getLast? hs)
              obtain ⟨q1, q2, q3⟩ := way_getLast (n := nn) (by rw [← HN.out]; exact down_way x k) HWF.out hs
              have hnl := Tr.wf_span HWW.out.1
              rw [(fork_span _ _ _ _ _ _).1, (fork_span _ _ _ _ _ _).2]
              exact fork_in q1 hon.1 hon.2 q2 (by omega) HP.out
            · rw [fork_cnt, HN.out]; simp only [Tr.cnt]; omega
            · rw [HW.out]; exact HG5.out
            · intro fs
              exact put_new (by rw [← HN.out]; exact down_way x k) HWF.out (down_on x k) HOFF.out _ _ _ _ _ _
            · rw [HN.out]; simp
            · rw [HFS.out]
              exact (fork_slots _ _ _ _ _ _ _).trans (List.Perm.swap _ _ _)
        · have he := hU.1
          subst he
          have HU := Lib.hid hU
          clear hU n0 n1
          go_wp2_with fail
          go_meet
          case rel => exact ⟨1, rfl, Or.inr ⟨rfl, 2, Nat.le_refl _, HU.out⟩⟩
      · have hok : ok = true ∧ a0 = k := by
          have h1 := HHIT.out
          cases ok with
          | false => simp at h1
          | true => simp at h1; exact ⟨rfl, h1⟩
        obtain ⟨rfl, rfl⟩ := hok
        obtain ⟨ni, hni⟩ := HOK1.out rfl
        subst hni
        have hold := way_old HWF.out HN.out
        have HOLD := Lib.hid hold
        have hwr := way_rep (down_way x a0) HR.out
        rw [HN.out] at hwr
        have HWR := Lib.hid hwr
        clear hold hwr
        by_cases hvv : v0 = v
        · subst hvv
          have hR := HR3.out
          have r0 := hR.cell 0 rfl
          have r1 := hR.cell 1 rfl
          have r2 := hR.cell 2 rfl
          have r3 := hR.cell 3 rfl
          have r4 := hR.cell 4 rfl
          have q0 := hR.free 0
          have q1 := hR.free 1
          have q2 := hR.free 2
          have q3 := hR.free 3
          have q4 := hR.free 4
          clear hR
          go_wp2_with fail
          have h5 := HR3.out.fill5 (.int .i64 hx) (.int .i64 v0) (.bool true) (.slice none 0 0) (.slice none 0 0)
          generalize (((((w3.setCell ⟨rb, 0, none⟩ (.int .i64 hx)).setCell ⟨rb, 1, none⟩ (.int .i64 v0)).setCell ⟨rb, 2, none⟩ (.bool true)).setCell ⟨rb, 3, none⟩ (.slice none 0 0)).setCell ⟨rb, 4, none⟩ (.slice none 0 0)) = w4 at h5 ⊢
          obtain ⟨h5, o5⟩ := h5
          have e0 := h5.cell 0 rfl
          have e1 := h5.cell 1 rfl
          have e2 := h5.cell 2 rfl
          have e3 := h5.cell 3 rfl
          have e4 := h5.cell 4 rfl
          refine bodyPost_ret (v := .tuple #[.agg #[.int .i64 hx, .int .i64 v0, .bool true, .slice none 0 0, .slice none 0 0], .int .i64 0]) (by simp [results, Try.results20, go_sem, e0, e1, e2, e3, e4]) rfl (Or.inl ⟨some x, S0, t0, 0, [], x.slots, .slice none 0 0, .slice none 0 0, ?_, ⟨HR.out, HWF.out⟩, ?_, Mg.zero _ _ _, ?_, World.ownsRow_nil _ _ _ _, by simpa [mds] using World.ownsRow_nil w4 _ 3 1, by simp [slotsO], by simp [slotsO], by simp, by omega, ?_, Or.inl ⟨rfl, rfl, rfl, _, HN.out⟩⟩)
          · rw [HOLD.out.1, HOLD.out.2]
            rw [show rootOf S0 (some x) = hx from HHX.out]
          · have hw := down_way x a0
            have he := down_ends x a0
            rw [HN.out] at hw he
            have hf := find_eq hw HWF.out (down_on x a0) he
            simp only [if_true] at hf
            exact (ins_same (Tr.wf_rising HWF.out) hf).symm
          · exact HT3.out.other o5 (fun hm => by simp at hm; have := HLT.out.1; have := HRB.out; omega) (fun k hk hm => by simp at hm; subst hm; have := HAL.out _ hk; omega)
          · have o6 : Only A.all w w3 := (HWA.out.2.1.trans HO3.out).mono (by simp)
            exact o6.past o5 (fun b hb => by simp at hb; right; have := HRB.out; omega)
        · have hvb : (v0 == v) = false := by simp [hvv]
          clear hvv
          go_upto_region 16 with fail
          have hd := Only.drew [] w3
          have hLd := HL3.out.only hd (by simp)
          have hNd := HN3.out.only hd (by simp)
          have hMd := HM3.out.only hd (by simp)
          have l1 := hLd.cell 1 rfl
          have n0 := hNd.cell 0 rfl
          have m3 := hMd.cell 3 rfl
          have m4 := hMd.cell 4 rfl
          have m5 := hMd.cell 5 rfl
          have f3 := hMd.free 3
          have f4 := hMd.free 4
          have f5 := hMd.free 5
          have x1 := World.new_ne _ _ l1
          have x2 := World.new_ne _ _ n0
          have hMa := (HM3.out.alloc (.cells #[.int .i64 hn] 3)).drew
          have m3a := hMa.cell 3 rfl
          have m4a := hMa.cell 4 rfl
          have m5a := hMa.cell 5 rfl
          have f3a := hMa.free 3
          have f4a := hMa.free 4
          have f5a := hMa.free 5
          clear hMa
          have z1 : ((w3.alloc (.cells #[.int .i64 hn] 3)).drew).cell? ⟨nb + 1, 1, none⟩ = some (.int .i64 v0) := (hLd.alloc (.cells #[.int .i64 hn] 3)).cell 1 rfl
          have z2 : ((w3.alloc (.cells #[.int .i64 hn] 3)).drew).cell? ⟨nb, 0, none⟩ = some (.int .i64 hn) := (hNd.alloc (.cells #[.int .i64 hn] 3)).cell 0 rfl
          clear hd hLd hNd hMd l0
          have hS1 := (HM3.out.alloc (.cells #[.int .i64 hn] 3)).set_same 3 (.int .i64 v0)
          have hS2 := hS1.set_same 4 (.bool true)
          have m4b := hS1.drew.cell 4 rfl
          have f4b := hS1.drew.free 4
          have m5b := hS2.drew.cell 5 rfl
          have f5b := hS2.drew.free 5
          have hs3 := HM3.out.set_same 3 (.int .i64 v0)
          have hs3a := hs3.alloc (.cells #[.int .i64 hn] 3)
          have hs3a4 := hs3a.set_same 4 (.bool true)
          have hs34 := hs3.set_same 4 (.bool true)
          have hs34a := hs34.alloc (.cells #[.int .i64 hn] 3)
          have c1 := hs3.drew.cell 4 rfl
          have c2 := hs3.drew.free 4
          have c3 := hs3a.drew.cell 4 rfl
          have c4 := hs3a.drew.free 4
          have c5 := hs3a4.drew.cell 5 rfl
          have c6 := hs3a4.drew.free 5
          have c7 := hs34.drew.cell 5 rfl
          have c8 := hs34.drew.free 5
          have c9 := hs34a.drew.cell 5 rfl
          have c10 := hs34a.drew.free 5
          have hn3 : Blk (w3.setCell ⟨rb + 1, 3, none⟩ (.int .i64 v0)) nb #[.int .i64 hn, .iface ty sv] 125 := HN3.out.set_other (a := ⟨rb + 1, 3, none⟩) (by simp; omega) (.int .i64 v0)
          have hn34 : Blk ((w3.setCell ⟨rb + 1, 3, none⟩ (.int .i64 v0)).setCell ⟨rb + 1, 4, none⟩ (.bool true)) nb #[.int .i64 hn, .iface ty sv] 125 := hn3.set_other (a := ⟨rb + 1, 4, none⟩) (by simp; omega) (.bool true)
          have d1 := hn3.drew.cell 0 rfl
          have d2 := hn34.drew.cell 0 rfl
          clear hS1 hS2 hs3 hs3a hs3a4 hs34 hs34a hn3 hn34
          have HE3 := Lib.hid (edit_three_drew HM3.out (.int .i64 v0) (.bool true) (.int .i64 hn) 3)
          go_cut [12] (fun s12 wc => s12 = .pointer (some ⟨rb + 1, 0, none⟩) ∧ EditThree w3 wc (rb + 1) (.pointer (some ⟨tb, 0, none⟩)) (.pointer none) (.int .i64 0) (.slice none 0 0) (.int .i64 v0) (.bool true) (.int .i64 hn) 119 3)
          case first =>
            go_region
            all_goals
              go_wp2_with fail
              go_meet
              refine ⟨rfl, ?_⟩
              first | with_reducible exact HE3.out.1 | with_reducible exact HE3.out.2.1 | with_reducible exact HE3.out.2.2
          case rest =>
            obtain ⟨rfl, hM5, hN5, hX5⟩ := hcut
            have hg3 := HG3.out.1
            have hs3 : rb + 1 < w3.heap.size := HM3.out.lt
            have hms : Hid (MSt A n S0 fs0 t0 fa tb (rb + 1) (rb + 1) v0 true (hnds S0 [ni]) wA 0 S0 fs0 t0 0 (.slice (some ⟨w3.heap.size, 0, none⟩) 1 1) (.slice none 0 0) wc) := by
              refine Lib.hid ⟨⟨hM5, ?_, by simpa [mds] using World.ownsRow_nil wc (rb + 1) 3 1, fun b hb => by simp [Value.ownBlock], ?_⟩, HT3.out.other hX5 (fun hm => by simp at hm; have := HLT.out.1; have := HRB.out; omega) (fun k hk hm => by simp at hm; subst hm; have := HAL.out _ hk; omega), Mg.zero _ _ _, (HO3.out.mono (by simp) : Only A.all wA w3).past hX5 (fun b hb => by simp at hb; right; have := HWA.out.1; omega)⟩
              · refine ⟨by simp [hnds], Or.inr ⟨w3.heap.size, 1, #[.int .i64 hn], rfl, by omega, hN5, by simp [hnds], by decide, rfl, ?_⟩⟩
                have := HHN.out
                simp only [hnd, Tr.slot] at this
                simp [hnds, this]
              · rintro b (hb | hb)
                · simp [Value.ownBlock] at hb; omega
                · simp [Value.ownBlock] at hb
            have HLF := Lib.hid (mst_leaf (x := a0) (v := v) hms.out HE.out)
            have HG5 := Lib.hid (HG3.out.only hX5 (by simpa using hg2))
            have hgw : w3.heap.size ≠ g := by omega
            have HGW := Lib.hid hgw
            have HSZ5 := Lib.hid hX5.size
            clear hM5 hN5 hX5 hg3 hs3 hgw
            go_wp2_with fail
            refine HLF.out.mono ?_
            rintro e w6 ⟨_, hX6, ⟨rfl, j0, r, mv2, hfs, hM6, _, hnb6⟩ | hU⟩
            · have HFS := Lib.hid hfs
              have hgn : g ∉ (rb + 1) :: ((Value.slice none 0 0).ownBlock.toList ++ A.all) := by
                intro hm
                simp [Value.ownBlock] at hm
                rcases hm with h | h
                · exact hg2 h
                · have := HAL.out g h; omega
              have HG6 := Lib.hid (HG5.out.only hX6 hgn)
              have hgm : mv2.ownBlock ≠ some g := by
                intro h
                rcases hnb6 g h with h | h
                · simp [Value.ownBlock] at h
                · have := HG5.out.1; omega
              have HGM := Lib.hid hgm
              have HM6 := Lib.hid hM6
              clear hfs hM6 hX6 hnb6 hgn hgm
              go_wp2_with fail
              go_meet
              case rel =>
                have hhc := HC.out
                have hspare := HF.out.spare (by omega) (show j0 ∈ fs0 by rw [HFS.out]; simp)
                have hroot : wd j0 ((S0 j0).gen + 1) = hnd (upS S0 j0 ⟨(S0 j0).gen + 1, 0, 0, 0, a0, v, 1⟩) (.leaf j0 a0 v) := by
                  unfold hnd
                  show _ = wd j0 ((upS S0 j0 _) j0).gen
                  rw [upS_same]
                refine ⟨0, rfl, Or.inl ⟨rfl, 1, .leaf j0 a0 v, _, r, t0 + 1, .slice (some ⟨w3.heap.size, 0, none⟩) 1 1, mv2, [ni], [], ?_, rep_leaf hspare a0 v, HKK.out, ?_, ?_, by omega, by omega, by simp, (fun h => HGW.out (by simpa [Value.ownBlock] using h)), HGM.out, ?_, ?_, by simp, by omega, ?_, ?_, by rw [HN.out]; exact Or.inl ⟨ni, v0, j0, r, rfl, HFS.out, rfl, rfl, rfl⟩⟩⟩
                · rw [HOLD.out.1, HOLD.out.2, ← hroot]; exact HM6.out
                · intro s hs
                  obtain ⟨q1, q2, q3⟩ := way_getLast (n := .leaf ni a0 v0) (by rw [← HN.out]; exact down_way x a0) HWF.out hs
                  exact ⟨q2, q3⟩
                · rw [HN.out]; simp [Tr.cnt]
                · rw [HW.out]; exact HG6.out
                · intro fs
                  exact put_old (i := ni) (v0 := v0) (by rw [← HN.out]; exact down_way x a0) HWF.out (down_on x a0) j0 v fs
                · rw [HN.out]; simp [Tr.slots]
                · rw [HFS.out]; simp [Tr.slots]
            · have he := hU.1
              subst he
              have HU := Lib.hid hU
              clear hU hX6
              go_wp2_with fail
              go_meet
              case rel => exact ⟨0, rfl, Or.inr ⟨rfl, 1, by omega, HU.out⟩⟩
    case rest =>
      obtain ⟨more, rfl, ⟨rfl, hgo⟩ | ⟨rfl, need, hneed, hU⟩⟩ := hcut
      · obtain ⟨kk, cur0, S1, fs1, t1, gv, mv, gs0, restn, hM, hRc, hwc, hlast, hcn, hm1, hm2, hgl, hgg, hgm, hG, hpairs, hk1, hk2, hp1, hp2, hcis⟩ := hgo
        rw [HW.out] at hlast hG hpairs
        rw [HN.out] at hcn hp1
        have hUP := trie_upwards (g := g) (cap := cap) (ad := ad) (W := W) (T0 := x) (nn := nn) (more := more) hM.tr hM.me HSIT.out hM.mg HF.out HC.out HTT.out (by rw [← HW.out, ← HN.out]; exact down_way x k) HWF.out HR.out hwc hRc hlast hcn hm1 hm2 (by omega) hg2 (fun h => by have := HAL.out g h; omega) hgg hgm hG.1 hG.2 hM.only HWA.out.1.symm (Nat.le_refl _) (by rw [hnds_length]; omega)
        have HUP := Lib.hid hUP
        have HPR := Lib.hid hpairs
        have HCIS := Lib.hid hcis
        have HK12 : Hid (kk ≤ gs0.length + 2 ∧ kk ≤ 2 ∧ gs0.length ≤ 1) := Lib.hid ⟨hk1, hk2, hgl⟩
        have HP12 : Hid (nn.slots.Perm (gs0 ++ restn) ∧ cur0.slots.Perm (fs0.take kk ++ restn)) := Lib.hid ⟨hp1, hp2⟩
        clear hM hRc hwc hlast hcn hgl hgg hgm hG hpairs hk1 hk2 hp1 hp2 hcis hUP l0 l1
        go_wp2_with fail
        refine HUP.out.mono ?_
        rintro e w7 (hok | hno)
        · obtain ⟨rfl, hle, S2, t2, gv2, mv2, hM7, hT7, hG7, hRp7, hwf7, hO7⟩ := hok
          obtain ⟨ga, gc, rfl⟩ := own_slice hM7.gown
          obtain ⟨ma, mc, rfl⟩ := own_slice hM7.mown
          have hR7 := HWA.out.2.2.only hO7 (fun hm => by have := HAL.out _ hm; omega)
          have hB7 := hM7.blk
          have m2 := hB7.cell 2 rfl
          have m3 := hB7.cell 3 rfl
          have m4 := hB7.cell 4 rfl
          have m5 := hB7.cell 5 rfl
          have m6 := hB7.cell 6 rfl
          have r0 := hR7.cell 0 rfl
          have r1 := hR7.cell 1 rfl
          have r2 := hR7.cell 2 rfl
          have r3 := hR7.cell 3 rfl
          have r4 := hR7.cell 4 rfl
          have q0 := hR7.free 0
          have q1 := hR7.free 1
          have q2 := hR7.free 2
          have q3 := hR7.free 3
          have q4 := hR7.free 4
          have HR7 := Lib.hid hR7
          have HT7 := Lib.hid hT7
          have HG7 := Lib.hid hG7
          have HM7 := Lib.hid hM7
          have HRW := Lib.hid (show Rep n S2 (rebuild W cur0 (fs0.drop kk)).1 ∧ (rebuild W cur0 (fs0.drop kk)).1.wf from ⟨hRp7, hwf7⟩)
          have HO7 := Lib.hid hO7
          have HLE := Lib.hid hle
          have hgn : (hnds S0 gs0 ++ hnds S0 (goneI W)).length = (gs0 ++ goneI W).length := by simp [hnds]
          have hmn : (mds S0 (fs0.take (kk + W.length))).length = kk + W.length := by rw [mds_length, List.length_take]; omega
          have HGN := Lib.hid hgn
          have HMN := Lib.hid hmn
          obtain ⟨gl, hgl⟩ : ∃ gl, (hnds S0 gs0 ++ hnds S0 (goneI W)).length = gl := ⟨_, rfl⟩
          obtain ⟨ml, hml⟩ : ∃ ml, (mds S0 (fs0.take (kk + W.length))).length = ml := ⟨_, rfl⟩
          obtain ⟨yr, hyr⟩ : ∃ yr, hnd S2 (rebuild W cur0 (fs0.drop kk)).1 = yr := ⟨_, rfl⟩
          obtain ⟨ov, hov⟩ : ∃ ov, oldOf x.pairs k = ov := ⟨_, rfl⟩
          obtain ⟨hv, hhv⟩ : ∃ hv, hadOf x.pairs k = hv := ⟨_, rfl⟩
          rw [hgl] at m5
          rw [hml] at m6
          rw [hyr] at m2
          rw [hov] at m3
          rw [hhv] at m4
          have HGLE := Lib.hid hgl
          have HMLE := Lib.hid hml
          have HYR := Lib.hid hyr
          have HOV := Lib.hid hov
          have HHV := Lib.hid hhv
          clear hR7 hT7 hG7 hRp7 hwf7 hO7 hB7 hM7 hle hgn hmn hgl hml hyr hov hhv
          go_wp2_with fail
          have h5 := HR7.out.fill5 (.int .i64 yr) (.int .i64 ov) (.bool hv) (.slice ga gl gc) (.slice ma ml mc)
          generalize (((((w7.setCell ⟨rb, 0, none⟩ (.int .i64 yr)).setCell ⟨rb, 1, none⟩ (.int .i64 ov)).setCell ⟨rb, 2, none⟩ (.bool hv)).setCell ⟨rb, 3, none⟩ (.slice ga gl gc)).setCell ⟨rb, 4, none⟩ (.slice ma ml mc)) = w8 at h5 ⊢
          obtain ⟨h5, o5⟩ := h5
          have e0 := h5.cell 0 rfl
          have e1 := h5.cell 1 rfl
          have e2 := h5.cell 2 rfl
          have e3 := h5.cell 3 rfl
          have e4 := h5.cell 4 rfl
          have hpm := edit_perm (by rw [← HW.out, ← HN.out]; exact down_way x k) HP12.out.1 HP12.out.2 HLE.out
          have hk12 := HK12.out
          have hgb : ∀ b, (Value.slice ga (hnds S0 gs0 ++ hnds S0 (goneI W)).length gc).ownBlock = some b → b ∉ [rb] := fun b hb hm => by
            have := (HM7.out.gown.lt b hb).1
            simp at hm; omega
          have hmb : ∀ b, (Value.slice ma (mds S0 (fs0.take (kk + W.length))).length mc).ownBlock = some b → b ∉ [rb] := fun b hb hm => by
            have := (HM7.out.mown.lt b hb).1
            simp at hm; omega
          refine bodyPost_ret (v := .tuple #[.agg #[.int .i64 yr, .int .i64 ov, .bool hv, .slice ga gl gc, .slice ma ml mc], .int .i64 0]) (by simp [results, Try.results20, go_sem, e0, e1, e2, e3, e4]) rfl (Or.inl ⟨some (rebuild W cur0 (fs0.drop kk)).1, S2, t2, kk + W.length, gs0 ++ goneI W, othersOf W ++ restn, .slice ga gl gc, .slice ma ml mc, ?_, HRW.out, HPR.out _, HG7.out, ?_, ?_, ?_, hpm.1, hpm.2, ?_, by omega, ?_, Or.inr ⟨kk, cur0, gs0, HCIS.out, by rw [HW.out], by rw [HW.out], by rw [HW.out]⟩⟩)
          · rw [show rootOf S2 (some (rebuild W cur0 (fs0.drop kk)).1) = yr from HYR.out, HOV.out, HHV.out]
          · exact HT7.out.other o5 (fun hm => by simp at hm; have := HLT.out.1; have := HRB.out; omega) (fun k hk hm => by simp at hm; subst hm; have := HAL.out _ hk; omega)
          · have := (ownsRow_only HM7.out.gown o5 hgb).mono (show w.heap.size ≤ rb + 1 by have := HRB.out; omega)
            rw [HGLE.out] at this
            rw [← HGN.out, HGLE.out]
            simpa [hnds] using this
          · have := (ownsRow_only HM7.out.mown o5 hmb).mono (show w.heap.size ≤ rb + 1 by have := HRB.out; omega)
            rw [HMLE.out] at this
            have e : kk + W.length = ml := HMN.out.symm.trans HMLE.out
            rw [e] at this ⊢
            exact this
          · rw [List.length_append, goneI_length]; omega
          · exact ((HWA.out.2.1.mono (by simp) : Only A.all w wA).trans HO7.out).past o5 (fun b hb => by simp at hb; right; have := HRB.out; omega)
        · have he := hno.1
          subst he
          have HNEED : Hid (fs0.length < 2 + (down x k).1.length) := Lib.hid (by have h1 := hno.2.1; have h2 := HK12.out; rw [HW.out]; omega)
          obtain ⟨_, _, hB7, S2, t2, hT7, hU7, ht7, hO7⟩ := hno
          have hR7 := HWA.out.2.2.only hO7 (fun hm => by have := HAL.out _ hm; omega)
          have m2 := hB7.cell 2 rfl
          have m3 := hB7.cell 3 rfl
          have m4 := hB7.cell 4 rfl
          have m5 := hB7.cell 5 rfl
          have m6 := hB7.cell 6 rfl
          have r0 := hR7.cell 0 rfl
          have r1 := hR7.cell 1 rfl
          have r2 := hR7.cell 2 rfl
          have r3 := hR7.cell 3 rfl
          have r4 := hR7.cell 4 rfl
          have q0 := hR7.free 0
          have q1 := hR7.free 1
          have q2 := hR7.free 2
          have q3 := hR7.free 3
          have q4 := hR7.free 4
          have HR7 := Lib.hid hR7
          have HT7 := Lib.hid hT7
          have HU7 := Lib.hid hU7
          have Ht7 := Lib.hid ht7
          have HO7 := Lib.hid hO7
          clear hR7 hT7 hU7 ht7 hO7 hB7
          go_wp2_with fail
          have h5 := HR7.out.fill5 (.int .i64 0) (.int .i64 0) (.bool false) (.slice none 0 0) (.slice none 0 0)
          generalize (((((w7.setCell ⟨rb, 0, none⟩ (.int .i64 0)).setCell ⟨rb, 1, none⟩ (.int .i64 0)).setCell ⟨rb, 2, none⟩ (.bool false)).setCell ⟨rb, 3, none⟩ (.slice none 0 0)).setCell ⟨rb, 4, none⟩ (.slice none 0 0)) = w8 at h5 ⊢
          obtain ⟨h5, o5⟩ := h5
          have e0 := h5.cell 0 rfl
          have e1 := h5.cell 1 rfl
          have e2 := h5.cell 2 rfl
          have e3 := h5.cell 3 rfl
          have e4 := h5.cell 4 rfl
          refine bodyPost_ret (v := .tuple #[.agg #[.int .i64 0, .int .i64 0, .bool false, .slice none 0 0, .slice none 0 0], .int .i64 102]) (by simp [results, Try.results20, go_sem, e0, e1, e2, e3, e4]) rfl (Or.inr ⟨HNEED.out, rfl, S2, t2, ?_, HU7.out, Ht7.out, ?_⟩)
          · exact HT7.out.other o5 (fun hm => by simp at hm; have := HLT.out.1; have := HRB.out; omega) (fun k hk hm => by simp at hm; subst hm; have := HAL.out _ hk; omega)
          · exact ((HWA.out.2.1.mono (by simp) : Only A.all w wA).trans HO7.out).past o5 (fun b hb => by simp at hb; right; have := HRB.out; omega)
      · have hno := hU
        have HNEED : Hid (fs0.length < 2 + (down x k).1.length) := Lib.hid (by have h1 := hno.2.1; omega)
        obtain ⟨_, _, hB7, S2, t2, hT7, hU7, ht7, hO7⟩ := hno
        have hR7 := HWA.out.2.2.only hO7 (fun hm => by have := HAL.out _ hm; omega)
        have m2 := hB7.cell 2 rfl
        have m3 := hB7.cell 3 rfl
        have m4 := hB7.cell 4 rfl
        have m5 := hB7.cell 5 rfl
        have m6 := hB7.cell 6 rfl
        have r0 := hR7.cell 0 rfl
        have r1 := hR7.cell 1 rfl
        have r2 := hR7.cell 2 rfl
        have r3 := hR7.cell 3 rfl
        have r4 := hR7.cell 4 rfl
        have q0 := hR7.free 0
        have q1 := hR7.free 1
        have q2 := hR7.free 2
        have q3 := hR7.free 3
        have q4 := hR7.free 4
        have HR7 := Lib.hid hR7
        have HT7 := Lib.hid hT7
        have HU7 := Lib.hid hU7
        have Ht7 := Lib.hid ht7
        have HO7 := Lib.hid hO7
        clear hR7 hT7 hU7 ht7 hO7 hB7
        go_wp2_with fail
        have h5 := HR7.out.fill5 (.int .i64 0) (.int .i64 0) (.bool false) (.slice none 0 0) (.slice none 0 0)
        generalize (((((wc.setCell ⟨rb, 0, none⟩ (.int .i64 0)).setCell ⟨rb, 1, none⟩ (.int .i64 0)).setCell ⟨rb, 2, none⟩ (.bool false)).setCell ⟨rb, 3, none⟩ (.slice none 0 0)).setCell ⟨rb, 4, none⟩ (.slice none 0 0)) = w8 at h5 ⊢
        obtain ⟨h5, o5⟩ := h5
        have e0 := h5.cell 0 rfl
        have e1 := h5.cell 1 rfl
        have e2 := h5.cell 2 rfl
        have e3 := h5.cell 3 rfl
        have e4 := h5.cell 4 rfl
        refine bodyPost_ret (v := .tuple #[.agg #[.int .i64 0, .int .i64 0, .bool false, .slice none 0 0, .slice none 0 0], .int .i64 102]) (by simp [results, Try.results20, go_sem, e0, e1, e2, e3, e4]) rfl (Or.inr ⟨HNEED.out, rfl, S2, t2, ?_, HU7.out, Ht7.out, ?_⟩)
        · exact HT7.out.other o5 (fun hm => by simp at hm; have := HLT.out.1; have := HRB.out; omega) (fun k hk hm => by simp at hm; subst hm; have := HAL.out _ hk; omega)
        · exact ((HWA.out.2.1.mono (by simp) : Only A.all w wA).trans HO7.out).past o5 (fun b hb => by simp at hb; right; have := HRB.out; omega)

theorem put_some {A : PA} {n : Nat} {S0 : Nat → Sl} {fs0 : List Nat} {t0 fa c0 : Int} {tb : Nat} {x : Tr} {k v : Int} {w : World} (T : TrAt w tb A n S0 t0 fs0 fa) (F : Fre n S0 fs0 c0) (hc : c0 < 999998) (ht : t0 + 2 * fs0.length ≤ 1000000) (R : Rep n S0 x) (wf : x.wf) (hk : 0 ≤ k ∧ k ≤ 4294967295) :
    Calls Try.prog 20 #[.pointer (some ⟨tb, 0, none⟩), .pointer none, .int .i64 (hnd S0 x), .int .i64 k, .int .i64 v] w fun e w' => EdOk A n S0 fs0 t0 fa tb (some x) (oldOf x.pairs k) (hadOf x.pairs k) (ins x.pairs k v) w e w' ∨ EdNo A n S0 fs0 t0 fa tb w e w' :=
  (put_some_x T F hc ht R wf hk).mono fun _ _ h => h.imp (fun h => h.ok) (fun h => h.2)

end Go.Proofs.Ytacegkjobfeiiaa

