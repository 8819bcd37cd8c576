/- Drop as a call, of a key that is there. Conditions: the pool stands in memory as PoolAt says, the map in it as Rep says. -/
import Derived.Test.YtacegkjobfeiiaaCEditX
set_option linter.unusedVariables false
set_option linter.unusedSimpArgs false
set_option linter.unusedSectionVars false
set_option linter.unnecessarySimpa false
namespace Go.Proofs.Ytacegkjobfeiiaa
open Go.RowKit

set_option maxRecDepth 100000 in
set_option maxHeartbeats 4000000 in
theorem drop_hit_x {A : PA} {n : Nat} {S0 : Nat → Sl} {fs0 : List Nat} {t0 fa c0 : Int} {tb : Nat} {x : Tr} {ni : Nat} {k v0 : Int} {w : World} (T : TrAt w tb A n S0 t0 fs0 fa) (F : Fre n S0 fs0 c0) (hc : c0 < 999998) (ht : t0 + 2 * fs0.length ≤ 1000000) (R : Rep n S0 x) (wf : x.wf) (hk : 0 ≤ k ∧ k ≤ 4294967295) (hhit : (down x k).2 = .leaf ni k v0) :
    Calls Try.prog 22 #[.pointer (some ⟨tb, 0, none⟩), .pointer none, .int .i64 (hnd S0 x), .int .i64 k] w fun e w' => EdOkX (DropIs x k) A n S0 fs0 t0 fa tb (some x) (oldOf x.pairs k) (hadOf x.pairs k) (del x.pairs k) w e w' ∨ EdNoX (down x k).1.length A n S0 fs0 t0 fa tb w e w' := by
  have hez := edit_zero
  have HHIT := Lib.hid hhit
  clear hhit
  have hka : isK k = true := by simp [isK]; exact hk
  have HKEY := Lib.hid (fun w => trie_key k w)
  rw [hka] at HKEY
  have hx0 : (hnd S0 x == 0) = false := by have := hnd_pos R; simp; omega
  have HDN := Lib.hid (fun w T => trie_down (w := w) (A := A) (n := n) (S := S0) (t := t0) (fs := fs0) (fa := fa) (tb := tb) (k := k) T R wf)
  have HT := Lib.hid T
  have HF := Lib.hid F
  have HC := Lib.hid hc
  have HTT := Lib.hid ht
  have HR := Lib.hid R
  have HWF := Lib.hid wf
  have HKK := Lib.hid hk
  have hnn := T.pool.many.2
  have HLT := Lib.hid T.lt
  have HNN := Lib.hid hnn
  clear T F hc ht R wf hka hk hnn
  generalize hhx : hnd S0 x = hx at *
  have HHX := Lib.hid hhx
  clear hhx
  go_enter Try.func22, Try.ntmps22
  go_wp2_with fail
  refine (HKEY.out _).mono ?_
  rintro e w1 ⟨rfl, rfl⟩
  go_wp2_with fail
  obtain ⟨wA, hwA⟩ : ∃ wA, w.alloc (.cells #[.int .i64 0, .int .i64 0, .bool false, .slice none 0 0, .slice none 0 0] 38) = wA := ⟨_, rfl⟩
  have HWA : Hid (wA.heap.size = w.heap.size + 1 ∧ Only [] w wA ∧ Blk wA w.heap.size #[.int .i64 0, .int .i64 0, .bool false, .slice none 0 0, .slice none 0 0] 38) := by
    subst hwA
    exact Lib.hid ⟨by simp, Only.alloc _ _ _, Blk.new _ _ _⟩
  rw [hwA]
  refine calls_name (fun w1 => TrAt w1 tb A n S0 t0 fs0 fa ∧ Blk w1 w.heap.size #[.int .i64 0, .int .i64 0, .bool false, .slice none 0 0, .slice none 0 0] 38 ∧ Only [] wA w1) ⟨HT.out.plain HWA.out.2.1, HWA.out.2.2, Only.refl _ _⟩ ?_
  clear hwA
  rintro w1 ⟨hT1, hR1, hO1⟩
  obtain ⟨rb, hrb⟩ : ∃ rb, w.heap.size = rb := ⟨_, rfl⟩
  have HRB := Lib.hid hrb
  rw [hrb] at hR1 HWA ⊢
  clear hrb
  have hm1s : rb < w1.heap.size := hR1.lt
  have HR1 := Lib.hid hR1
  have HO1 := Lib.hid hO1
  clear hR1 hO1
  refine (HDN.out w1 hT1).mono ?_
  rintro e w2 ⟨way, rfl, hown, hX2⟩
  obtain ⟨ad, cap, rfl, hcap, hway⟩ := own_steps hown
  have hway2 : ∃ g, rb ≤ g ∧ WayOk w2 S0 ad g (down x k).1 := by
    rcases hway with ⟨h1, h2⟩ | ⟨g, h1, h2, h3⟩
    · exact ⟨rb, Nat.le_refl _, ⟨Nat.lt_of_lt_of_le (by omega) hX2.size, Or.inl h1⟩⟩
    · exact ⟨g, by omega, ⟨h3.lt, Or.inr ⟨h1, h3⟩⟩⟩
  obtain ⟨g, hg1, hg3⟩ := hway2
  have HG3 := Lib.hid hg3
  have HT2 := Lib.hid (hT1.plain hX2)
  have HR2 := Lib.hid (HR1.out.only hX2 (by simp))
  have HO2 := Lib.hid (HO1.out.trans hX2)
  have HM2S : Hid (rb < w2.heap.size) := Lib.hid (Nat.lt_of_lt_of_le hm1s hX2.size)
  clear hT1 hown hX2 hway hg3 HR1 HO1 hm1s HDN
  obtain ⟨W, hW⟩ : ∃ W, (down x k).1 = W := ⟨_, rfl⟩
  obtain ⟨nn, hnn⟩ : ∃ nn, (down x k).2 = nn := ⟨_, rfl⟩
  have HW := Lib.hid hW
  have HN := Lib.hid hnn
  obtain ⟨ty, sv, hsv⟩ := shV_one S0 nn
  have HSV := Lib.hid hsv
  rw [hW] at HG3 ⊢
  rw [hnn, ndV_agg, hsv]
  have hWl : W.length ≤ 32 := by
    have h1 := down_len x k HWF.out
    have h2 := rk_le HWF.out
    rw [hW] at h1
    omega
  rw [hW] at hcap
  have HCAP := Lib.hid hcap
  clear hW hnn hsv hcap
  generalize hhn : hnd S0 nn = hn at *
  have HHN := Lib.hid hhn
  clear hhn
  obtain ⟨a1, v1, ok, hta, hok1, hok2⟩ := assertL_any S0 nn
  have hta := hta ty sv HSV.out
  have HOK1 := Lib.hid hok1
  have HOK2 := Lib.hid hok2
  clear hok1 hok2
  go_upto_region 9 with fail
  obtain ⟨nb, hnb⟩ : ∃ nb, w2.heap.size = nb := ⟨_, rfl⟩
  have HNB := Lib.hid hnb
  refine wp_name (fun w3 => TrAt w3 tb A n S0 t0 fs0 fa ∧ Blk w3 rb #[.int .i64 0, .int .i64 0, .bool false, .slice none 0 0, .slice none 0 0] 38 ∧ Blk w3 nb #[.int .i64 hn, .iface ty sv] 125 ∧ Blk w3 (nb + 1) #[.int .i64 a1, .int .i64 v1] 129 ∧ WayOk w3 S0 ad g W ∧ Only [] wA w3) ?_ ?_
  · have o2 : ∀ o1 o2, Only [] w2 ((w2.alloc o1).alloc o2) := fun o1 o2 => (Only.alloc [] _ o1).trans (Only.alloc [] _ o2)
    refine ⟨HT2.out.plain (o2 _ _), HR2.out.only (o2 _ _) (by simp), ?_, ?_, HG3.out.only (o2 _ _) (by simp), HO2.out.trans (o2 _ _)⟩
    · have := (Blk.new w2 #[.int .i64 hn, .iface ty sv] 125).alloc (.cells #[.int .i64 a1, .int .i64 v1] 129)
      rw [hnb] at this
      exact this
    · have := Blk.new (w2.alloc (.cells #[.int .i64 hn, .iface ty sv] 125)) #[.int .i64 a1, .int .i64 v1] 129
      have e : (w2.alloc (.cells #[.int .i64 hn, .iface ty sv] 125)).heap.size = nb + 1 := by rw [← hnb]; simp
      rw [e] at this
      exact this
  have hnbl : rb < nb ∧ g < nb := by
    rw [← hnb]
    exact ⟨HM2S.out, HG3.out.1⟩
  rw [hnb]
  clear hnb hta HT2 HR2 HG3 HO2 HM2S
  obtain ⟨hnb1, hnb2⟩ := hnbl
  rintro w3 ⟨hT3, hR3, hN3, hL3, hG3, hO3⟩
  have HT3 := Lib.hid hT3
  have HR3 := Lib.hid hR3
  have HN3 := Lib.hid hN3
  have HL3 := Lib.hid hL3
  have HG3 := Lib.hid hG3
  have HO3 := Lib.hid hO3
  have l0 := hL3.cell 0 rfl
  have l1 := hL3.cell 1 rfl
  clear hT3 hR3 hN3 hL3 hG3 hO3
  have hok : ok = true ∧ a1 = k ∧ v1 = v0 := by
    have h1 := HOK1.out
    have h2 := HOK2.out
    have h3 := HHIT.out
    rw [HN.out] at h3
    cases ok with
    | false => exact absurd h3 (h2 rfl ni k v0)
    | true =>
      obtain ⟨i, hi⟩ := h1 rfl
      rw [h3] at hi
      injection hi with e1 e2 e3
      exact ⟨rfl, e2.symm, e3.symm⟩
  obtain ⟨rfl, rfl, rfl⟩ := hok
  have hnl : nn = .leaf ni a1 v1 := by rw [← HN.out]; exact HHIT.out
  subst hnl
  have hne : (a1 != a1) = false := by simp
  have n0 := HN3.out.cell 0 rfl
  have HOLD := Lib.hid (way_old HWF.out HN.out)
  go_upto_region 12 with fail
  refine wp_name (fun w4 => TrAt w4 tb A n S0 t0 fs0 fa ∧ Blk w4 rb #[.int .i64 0, .int .i64 0, .bool false, .slice none 0 0, .slice none 0 0] 38 ∧ Blk w4 w3.heap.size #[.int .i64 hn] 3 ∧ Blk w4 (w3.heap.size + 1) #[.pointer (some ⟨tb, 0, none⟩), .pointer none, .int .i64 0, .int .i64 v1, .bool true, .slice (some ⟨w3.heap.size, 0, none⟩) 1 1, .slice none 0 0] 119 ∧ WayOk w4 S0 ad g W ∧ Only [] wA w4) ?_ ?_
  · have o2 : ∀ o1 o2, Only [] w3 ((w3.alloc o1).alloc o2) := fun o1 o2 => (Only.alloc [] _ o1).trans (Only.alloc [] _ o2)
    refine ⟨HT3.out.plain (o2 _ _), HR3.out.only (o2 _ _) (by simp), (Blk.new _ _ _).alloc _, ?_, HG3.out.only (o2 _ _) (by simp), HO3.out.trans (o2 _ _)⟩
    have := Blk.new (w3.alloc (.cells #[.int .i64 hn] 3)) #[.pointer (some ⟨tb, 0, none⟩), .pointer none, .int .i64 0, .int .i64 v1, .bool true, .slice (some ⟨w3.heap.size, 0, none⟩) 1 1, .slice none 0 0] 119
    simpa using this
  have hgb0 : nb + 1 < w3.heap.size ∧ g < w3.heap.size := ⟨HL3.out.lt, HG3.out.1⟩
  generalize w3.heap.size = gb at hgb0 ⊢
  obtain ⟨hgb1, hgb2⟩ := hgb0
  clear HT3 HR3 HN3 HL3 HG3 HO3 l0 l1 n0 hne
  rintro w4 ⟨hT4, hR4, hGB4, hM4, hG4, hO4⟩
  have HAL : Hid (∀ k, k ∈ A.all → k < rb) := Lib.hid (fun k hk => by have := HLT.out.2 k hk; have := HRB.out; omega)
  have HSIT : Hid (Sit (gb + 1) tb (rb + 1) A) := by
    obtain ⟨h1, h2⟩ := HLT.out
    have h3 := HRB.out
    exact Lib.hid ⟨fun hm => by have := h2 _ hm; omega, by omega, fun k hk => by have := h2 k hk; omega, by omega, hT4.off⟩
  have hgo : w4.ownsRow (rb + 1) 3 1 (.slice (some ⟨gb, 0, none⟩) 1 1) (hnds S0 [ni]).length ((hnds S0 [ni]).map (Value.int .i64)) := by
    refine ⟨by simp [hnds], Or.inr ⟨gb, 1, #[.int .i64 hn], rfl, by omega, hGB4, by simp [hnds], by decide, rfl, ?_⟩⟩
    have := HHN.out
    simp only [hnd, Tr.slot] at this
    simp [hnds, this]
  have hms : Hid (MSt A n S0 fs0 t0 fa tb (gb + 1) (rb + 1) v1 true (hnds S0 [ni]) wA 0 S0 fs0 t0 0 (.slice (some ⟨gb, 0, none⟩) 1 1) (.slice none 0 0) w4) := by
    refine Lib.hid ⟨⟨hM4, hgo, by simpa [mds] using World.ownsRow_nil w4 (rb + 1) 3 1, fun b hb => by simp [Value.ownBlock], ?_⟩, hT4, Mg.zero _ _ _, hO4.mono (by simp)⟩
    rintro b (hb | hb)
    · simp [Value.ownBlock] at hb; omega
    · simp [Value.ownBlock] at hb
  have HR4 := Lib.hid hR4
  have HG4 := Lib.hid hG4
  have HO4 := Lib.hid hO4
  have HM4 := Lib.hid hM4
  have HGO := Lib.hid hgo
  have HT4 := Lib.hid hT4
  clear hT4 hR4 hGB4 hM4 hG4 hO4 hgo
  by_cases hw0 : W.length = 0
  · have hw00 : W = [] := List.eq_nil_of_length_eq_zero hw0
    have hwb : ((W.length : Int) == 0) = true := by simp [hw0]
    have HW0 := Lib.hid hw00
    clear hw0 hw00
    have m2 := HM4.out.cell 2 rfl
    have m3 := HM4.out.cell 3 rfl
    have m4 := HM4.out.cell 4 rfl
    have m5 := HM4.out.cell 5 rfl
    have m6 := HM4.out.cell 6 rfl
    have r0 := HR4.out.cell 0 rfl
    have r1 := HR4.out.cell 1 rfl
    have r2 := HR4.out.cell 2 rfl
    have r3 := HR4.out.cell 3 rfl
    have r4 := HR4.out.cell 4 rfl
    have q0 := HR4.out.free 0
    have q1 := HR4.out.free 1
    have q2 := HR4.out.free 2
    have q3 := HR4.out.free 3
    have q4 := HR4.out.free 4
    go_wp2_with fail
    have h5 := HR4.out.fill5 (.int .i64 0) (.int .i64 v1) (.bool true) (.slice (some ⟨gb, 0, none⟩) 1 1) (.slice none 0 0)
    generalize (((((w4.setCell ⟨rb, 0, none⟩ (.int .i64 0)).setCell ⟨rb, 1, none⟩ (.int .i64 v1)).setCell ⟨rb, 2, none⟩ (.bool true)).setCell ⟨rb, 3, none⟩ (.slice (some ⟨gb, 0, none⟩) 1 1)).setCell ⟨rb, 4, none⟩ (.slice none 0 0)) = w8 at h5 ⊢
    obtain ⟨h5, o5⟩ := h5
    have e0 := h5.cell 0 rfl
    have e1 := h5.cell 1 rfl
    have e2 := h5.cell 2 rfl
    have e3 := h5.cell 3 rfl
    have e4 := h5.cell 4 rfl
    have hxl : x = .leaf ni a1 v1 := by
      have h1 := down_way x a1
      rw [HW.out, HW0.out, HN.out] at h1
      exact h1
    refine bodyPost_ret (v := .tuple #[.agg #[.int .i64 0, .int .i64 v1, .bool true, .slice (some ⟨gb, 0, none⟩) 1 1, .slice none 0 0], .int .i64 0]) (by simp [results, Try.results22, go_sem, e0, e1, e2, e3, e4]) rfl (Or.inl ⟨none, S0, t0, 0, [ni], [], .slice (some ⟨gb, 0, none⟩) 1 1, .slice none 0 0, ?_, trivial, ?_, Mg.zero _ _ _, ?_, ?_, by simpa [mds] using World.ownsRow_nil w8 _ 3 1, ?_, by simp [slotsO], by simp, by omega, ?_, Or.inl ⟨?_, rfl, rfl⟩⟩)
    · rw [HOLD.out.1, HOLD.out.2]; rfl
    · rw [hxl]; simp [prs, Tr.pairs, del]
    · exact HT4.out.other o5 (fun hm => by simp at hm; have := HLT.out.1; have := HRB.out; omega) (fun k hk hm => by simp at hm; subst hm; have := HAL.out _ hk; omega)
    · have := (ownsRow_only HGO.out o5 (fun b hb hm => by simp [Value.ownBlock] at hb hm; omega)).mono (show w.heap.size ≤ rb + 1 by have := HRB.out; omega)
      simpa [hnds] using this
    · rw [hxl]; simp [slotsO, Tr.slots]
    · exact ((HWA.out.2.1.trans HO4.out).mono (by simp) : Only A.all w w4).past o5 (fun b hb => by simp at hb; right; have := HRB.out; omega)
    · rw [HW.out, HW0.out]
  · obtain ⟨q, hq⟩ : ∃ q, W.length = q + 1 := ⟨W.length - 1, by omega⟩
    obtain ⟨W', s, hws⟩ : ∃ W' s, W = W' ++ [s] := ⟨W.dropLast, W.getLast (by intro e; rw [e] at hw0; exact hw0 rfl), (List.dropLast_concat_getLast _).symm⟩
    have hq' : W'.length = q := by rw [hws] at hq; simp at hq; exact hq
    have hsq : W[q]? = some s := by rw [hws, ← hq']; simp
    have had0 : ad = some ⟨g, 0, none⟩ ∧ StepsAt w4 S0 g W := by
      rcases HG4.out.2 with h | h
      · rw [h] at hw0; exact absurd rfl hw0
      · exact h
    obtain ⟨had0, hsa⟩ := had0
    subst had0
    have hcl := hsa.cells q s hsq
    have hwy := down_way x a1
    rw [HW.out, HN.out, hws] at hwy
    obtain ⟨hwy1, hwy2⟩ := way_last hwy
    have hdon : On a1 (W' ++ [s]) := by rw [← hws, ← HW.out]; exact down_on x a1
    have HWY0 := Lib.hid hwy
    have HDON := Lib.hid hdon
    have HWY := Lib.hid hwy1
    have HINTO := Lib.hid hwy2
    have hsw := (way_wf hwy1 HWF.out).1
    have hsR := (way_rep hwy1 HR.out).1
    have HSW := Lib.hid hsw
    have HSR := Lib.hid hsR
    have HWS := Lib.hid hws
    have HQ' := Lib.hid hq'
    have hSA' : StepsAt w4 S0 g W' := ⟨hsa.lt, fun p t ht => hsa.cells p t (by rw [hws, List.getElem?_append_left (List.getElem?_eq_some_iff.1 ht).1]; exact ht)⟩
    have HSA := Lib.hid hSA'
    obtain ⟨si, sp, sf, sl, sr, sright⟩ := s
    have c0 : w4.cell? ⟨g, q * 7, none⟩ = some (.int .i64 sp) := hcl 0 _ rfl
    have c1 : w4.cell? ⟨g, q * 7 + 1, none⟩ = some (.int .i64 sf) := hcl 1 _ rfl
    have c2 : w4.cell? ⟨g, q * 7 + 2, none⟩ = some (.int .i64 (hnd S0 sl)) := hcl 2 _ rfl
    have c3 : w4.cell? ⟨g, q * 7 + 3, none⟩ = some (.int .i64 (hnd S0 sr)) := hcl 3 _ rfl
    have c4 : w4.cell? ⟨g, q * 7 + 4, none⟩ = some (.int .i64 ((Stp.whole ⟨si, sp, sf, sl, sr, sright⟩).cnt : Nat)) := hcl 4 _ rfl
    have c5 : w4.cell? ⟨g, q * 7 + 5, none⟩ = some (.int .i64 (hnd S0 (Stp.whole ⟨si, sp, sf, sl, sr, sright⟩))) := hcl 5 _ rfl
    have c6 : w4.cell? ⟨g, q * 7 + 6, none⟩ = some (.bool sright) := hcl 6 _ rfl
    have hcapq : q + 1 ≤ cap := by rw [← hq]; exact HCAP.out
    have HCQ := Lib.hid hcapq
    have hq64 : q + 1 ≤ 32 := by rw [← hq]; exact hWl
    have hwb : (((q + 1 : Nat) : Int) == 0) = false := by simp; omega
    rw [hq]
    clear hcl hwy hwy1 hwy2 hdon hsw hsR hws hq' hsq hsa hSA' hw0 hq hWl hcapq
    generalize hvl : hnd S0 sl = vl at *
    generalize hvr : hnd S0 sr = vr at *
    generalize hvc : (((Stp.whole ⟨si, sp, sf, sl, sr, sright⟩).cnt : Nat) : Int) = vc at *
    generalize hvh : hnd S0 (Stp.whole ⟨si, sp, sf, sl, sr, sright⟩) = vh at *
    have HVL := Lib.hid hvl
    have HVR := Lib.hid hvr
    have HVC := Lib.hid hvc
    have HVH := Lib.hid hvh
    clear hvl hvr hvc hvh
    have hq2 : (0 : Int) ≤ q := by omega
    have hq3 : (q : Int) < ((q + 1 : Nat) : Int) := by omega
    go_upto_region 15 with fail
    refine wp_name (fun w5 => MSt A n S0 fs0 t0 fa tb (gb + 1) (rb + 1) v1 true (hnds S0 [ni]) wA 0 S0 fs0 t0 0 (.slice (some ⟨gb, 0, none⟩) 1 1) (.slice none 0 0) w5 ∧ Blk w5 w4.heap.size #[.int .i64 sp, .int .i64 sf, .int .i64 vl, .int .i64 vr, .int .i64 vc, .int .i64 vh, .bool sright] 137 ∧ StepsAt w5 S0 g W') ⟨hms.out.plain (Only.alloc [] _ _), Blk.new _ _ _, HSA.out.only (Only.alloc [] _ _) (by simp)⟩ ?_
    have hsb0 : gb + 1 < w4.heap.size := HM4.out.lt
    generalize w4.heap.size = sb at hsb0 ⊢
    clear hms HR4 HG4 HO4 HM4 HGO HT4 HSA c0 c1 c2 c3 c4 c5 c6
    rintro w5 ⟨hM5, hB5, hS5⟩
    have hmbw : wA.heap.size ≤ gb + 1 := by have := HWA.out.1; omega
    have HMBW := Lib.hid hmbw
    clear hmbw
    have HM5 := Lib.hid hM5
    have HB5 := Lib.hid hB5
    have HS5 := Lib.hid hS5
    have b3 := hB5.cell 3 rfl
    have m2 := hM5.me.blk.cell 2 rfl
    have f2 := hM5.me.blk.free 2
    have b6 := hB5.cell 6 rfl
    have b2 := hB5.cell 2 rfl
    have hgmb : g ≠ gb + 1 := by omega
    have hsbn : sb ≠ gb + 1 := by omega
    have b6a : (w5.setCell ⟨gb + 1, 2, none⟩ (.int .i64 vr)).cell? ⟨sb, 6, none⟩ = some (.bool sright) := (hB5.set_other (a := ⟨gb + 1, 2, none⟩) hsbn (.int .i64 vr)).cell 6 rfl
    clear hM5 hB5 hS5
    go_upto_if 87 with fail
    refine wp_name (fun w6 => MSt A n S0 fs0 t0 fa tb (gb + 1) (rb + 1) v1 true (hnds S0 [ni]) wA 0 S0 fs0 t0 vr (.slice (some ⟨gb, 0, none⟩) 1 1) (.slice none 0 0) w6 ∧ Blk w6 sb #[.int .i64 sp, .int .i64 sf, .int .i64 vl, .int .i64 vr, .int .i64 vc, .int .i64 vh, .bool sright] 137 ∧ StepsAt w6 S0 g W') ⟨(mst_root HM5.out HSIT.out HMBW.out vr).1, HB5.out.set_other (a := ⟨gb + 1, 2, none⟩) hsbn _, HS5.out.only (mst_root HM5.out HSIT.out HMBW.out vr).2 (by simpa using hgmb)⟩ ?_
    clear HM5 HB5 HS5 b3 m2 f2 b6 b2 b6a
    rintro w6 ⟨hM6, hB6, hS6⟩
    have HM6 := Lib.hid hM6
    have HB6 := Lib.hid hB6
    have HS6 := Lib.hid hS6
    have m2 := hM6.me.blk.cell 2 rfl
    have f2 := hM6.me.blk.free 2
    have b2 := hB6.cell 2 rfl
    obtain ⟨lv, hlv⟩ : ∃ lv, (if sright then vl else vr) = lv := ⟨_, rfl⟩
    have HLV := Lib.hid hlv
    clear hM6 hB6 hS6 hlv
    go_cut [15] (fun s15 wc => s15 = .pointer (some ⟨gb + 1, 0, none⟩) ∧ MSt A n S0 fs0 t0 fa tb (gb + 1) (rb + 1) v1 true (hnds S0 [ni]) wA 0 S0 fs0 t0 lv (.slice (some ⟨gb, 0, none⟩) 1 1) (.slice none 0 0) wc ∧ Blk wc sb #[.int .i64 sp, .int .i64 sf, .int .i64 vl, .int .i64 vr, .int .i64 vc, .int .i64 vh, .bool sright] 137 ∧ StepsAt wc S0 g W')
    case first =>
      cases sright
      · go_wp2_with fail
        go_meet
        case rel => exact ⟨rfl, by rw [← HLV.out]; exact HM6.out, HB6.out, HS6.out⟩
      · go_wp2_with fail
        go_meet
        case rel => exact ⟨rfl, by rw [← HLV.out]; exact (mst_root HM6.out HSIT.out HMBW.out vl).1, HB6.out.set_other (a := ⟨gb + 1, 2, none⟩) hsbn _, HS6.out.only (mst_root HM6.out HSIT.out HMBW.out vl).2 (by simpa using hgmb)⟩
    case rest =>
      obtain ⟨rfl, hM7, hB7, hS7⟩ := hcut
      have HM7 := Lib.hid hM7
      have HB7 := Lib.hid hB7
      have HS7 := Lib.hid hS7
      clear HM6 HB6 HS6 m2 f2 b2 hM7 hB7 hS7
      obtain ⟨i0, hi0, hz0, hz1, hz2⟩ := info_parts info_int
      obtain ⟨gl0, hgl0⟩ : ∃ gl0, hnds S0 [ni] = gl0 := ⟨_, rfl⟩
      have hgl1 : gl0.length = 1 := by rw [← hgl0]; simp [hnds]
      have HGL0 := Lib.hid hgl0
      have HGL1 := Lib.hid hgl1
      rw [hgl0] at HM7
      clear hgl0
      obtain ⟨gv, hgv⟩ : ∃ gv, Value.slice (some ⟨gb, 0, none⟩) 1 1 = gv := ⟨_, rfl⟩
      have HGV := Lib.hid hgv
      rw [hgv] at HM7
      clear hgv
      have hgbk : ∀ b, b ∈ gv.ownBlock.toList → b = gb := fun b hb => by rw [← HGV.out] at hb; simpa [Value.ownBlock] using hb
      have HGB := Lib.hid hgbk
      clear hgbk
      go_upto_region 18 with fail
      have HF5 : Hid (∀ w8, ((wc.alloc (.cells #[.int .i64 vh] 3)).drew).grownBy w8 gv.ownBlock → Only gv.ownBlock.toList wc w8) := by
        intro w8 h
        exact ((Only.alloc _ wc (.cells #[.int .i64 vh] 3)).trans (Only.drew _ _)).trans (Only.of_grown h (by intro k hk; simp [hk]))
      have HB6 : Hid (∀ w8, ((wc.alloc (.cells #[.int .i64 vh] 3)).drew).grownBy w8 gv.ownBlock → Blk w8 (gb + 1) #[.pointer (some ⟨tb, 0, none⟩), .pointer none, .int .i64 lv, .int .i64 v1, .bool true, gv, .slice none 0 0] 119) := by
        intro w8 h
        exact HM7.out.me.blk.only (HF5.out w8 h) (fun hm => by have := HGB.out _ hm; omega)
      have HG := Lib.hid HM7.out.me.gown
      have hbs : rb + 1 ≤ wc.heap.size := by have := HB7.out.lt; omega
      have hL1 : gl0.length + 1 ≤ maxLen := by unfold maxLen; omega
      have hL2 : (gl0.length + 1) * 8 ≤ 140737488355328 := by omega
      have hL3 : rb + 1 ≤ (wc.alloc (.cells #[.int .i64 vh] 3)).drew.heap.size := by show rb + 1 ≤ (wc.alloc _).heap.size; simp; omega
      have hL4 : (wc.alloc (.cells #[.int .i64 vh] 3)).drew.heap.size = wc.heap.size + 1 := by show (wc.alloc _).heap.size = _; simp
      have HL4 := Lib.hid hL4
      have m5 := (HM7.out.me.blk.only (Only.drew [] wc) (by simp)).cell 5 rfl
      have b5 := (HB7.out.only (Only.drew [] wc) (by simp)).cell 5 rfl
      have m5a : ((wc.alloc (.cells #[.int .i64 vh] 3)).drew).cell? ⟨gb + 1, 5, none⟩ = some gv := (HM7.out.me.blk.only (Only.alloc [] wc (.cells #[.int .i64 vh] 3)) (by simp)).cell 5 rfl
      have b5a : ((wc.alloc (.cells #[.int .i64 vh] 3)).drew).cell? ⟨sb, 5, none⟩ = some (.int .i64 vh) := (HB7.out.only (Only.alloc [] wc (.cells #[.int .i64 vh] 3)) (by simp)).cell 5 rfl
      clear hL4 hgl1
      go_cut [15] (fun s15 wd => s15 = .pointer (some ⟨gb + 1, 0, none⟩) ∧ ∃ gg capg, MSt A n S0 fs0 t0 fa tb (gb + 1) (rb + 1) v1 true (gl0 ++ [vh]) wA 0 S0 fs0 t0 lv (.slice (some ⟨gg, 0, none⟩) (gl0.length + 1) capg) (.slice none 0 0) wd ∧ gg ≠ g ∧ StepsAt wd S0 g W')
      case first =>
        go_region_law (first | (refine step_append_lies _ (by rfl) (.tmp 100) (.tmp 103) 36 (by rfl) (rb + 1) 3 i0 _ 1 8 Try.underlying36 hi0 hz0 hz1 hz2 rfl (by decide) gv _ _ (by rfl) ((HG.out.alloc _).drew) ⟨wc.heap.size, 0, none⟩ 1 1 [.int .i64 vh] (by rfl) (by rfl) (cell_one_new _ _ _) (by simp [Value.oneCell']) Nat.one_pos hL1 hL2 hL3 (wc.heap.size + 1) HL4.out ?_; intro gg capg w8 hown8 hgrow8 hat8 hlt8; have hB8 := HB6.out w8 hgrow8; have m8 := hB8.cell 5 rfl; have f8 := hB8.free 5; clear hB8))
        all_goals
          have HMG := Lib.hid (mst_gone HM7.out HSIT.out HMBW.out (by have := HWA.out.1; omega) hown8 hgrow8 hat8)
          have HAT := Lib.hid hat8
          clear hown8 hgrow8 hat8 hlt8 m5 b5 m5a b5a hL1 hL2 hL3
          go_wp2_with fail
          go_meet
        all_goals
          have h1 := HAT.out
          have hsl := HS7.out.lt
          refine ⟨rfl, gg, capg, HMG.out.1, ?_, HS7.out.only HMG.out.2 ?_⟩
          · rcases h1 with h | h
            · have := HGB.out gg (by simp [h]); omega
            · omega
          · intro hm
            simp only [List.mem_cons] at hm
            rcases hm with h | h
            · exact hgmb h
            · have := HGB.out g h; omega
      case rest =>
        obtain ⟨rfl, gg, capg, hM9, hgg, hS9⟩ := hcut
        clear HM7 HB7 HS7 HF5 HB6 HG m5 b5 m5a b5a hL1 hL2 hL3 HL4
        have hge : gl0 ++ [vh] = hnds S0 [ni, si] := by
          rw [← HGL0.out, ← HVH.out]
          simp [hnds, hnd, Stp.whole, Tr.slot]
        rw [hge] at hM9
        obtain ⟨cur0, hcur⟩ : ∃ cur0, (Stp.other ⟨si, sp, sf, sl, sr, sright⟩) = cur0 := ⟨_, rfl⟩
        have how := other_wf HSW.out
        have hoR := whole_other HSR.out
        have hlvc : lv = hnd S0 cur0 := by
          rw [← hcur, ← HLV.out]
          unfold Stp.other
          cases sright
          · exact HVR.out.symm
          · exact HVL.out.symm
        rw [hcur] at how hoR
        have HPAIRS : Hid (∀ fs, (rebuild W' cur0 fs).1.pairs = del x.pairs a1) := Lib.hid (fun fs => by rw [← hcur]; exact drop_pairs HWY0.out HWF.out HDON.out fs)
        have hocnt : (cur0.cnt : Int) = ((Stp.whole ⟨si, sp, sf, sl, sr, sright⟩).cnt : Nat) + (-1) := by
          have h1 := HINTO.out
          rw [← hcur]
          unfold Stp.into at h1
          unfold Stp.other Stp.whole
          cases sright
          · have h1 : Tr.leaf ni a1 v1 = sl := h1
            subst h1
            simp only [Tr.cnt]; simp; omega
          · have h1 : Tr.leaf ni a1 v1 = sr := h1
            subst h1
            simp only [Tr.cnt]; simp; omega
        have HP12 : Hid ((Stp.whole ⟨si, sp, sf, sl, sr, sright⟩).slots.Perm ([ni, si] ++ cur0.slots) ∧ cur0.slots.Perm (fs0.take 0 ++ cur0.slots)) := by
          refine Lib.hid ⟨?_, by simp⟩
          have h1 := HINTO.out
          rw [← hcur]
          unfold Stp.into at h1
          unfold Stp.other Stp.whole
          cases sright
          · have h1 : Tr.leaf ni a1 v1 = sl := h1
            subst h1
            exact List.Perm.swap _ _ _
          · have h1 : Tr.leaf ni a1 v1 = sr := h1
            subst h1
            refine List.perm_iff_count.2 fun a => ?_
            simp only [Tr.slots, if_true, List.count_append, List.count_cons, List.count_nil]
            omega
        rw [hlvc] at hM9
        have hUP := trie_upwards (g := g) (cap := cap) (ad := some ⟨g, 0, none⟩) (W := W') (T0 := x) (nn := Stp.whole ⟨si, sp, sf, sl, sr, sright⟩) (more := -1) hM9.tr hM9.me HSIT.out hM9.mg HF.out HC.out HTT.out HWY.out HWF.out HR.out how.1 hoR (fun s' hs' => by
          obtain ⟨q1, q2, q3⟩ := way_getLast HWY.out HWF.out hs'
          have := how.2
          omega) hocnt (by omega) (by omega) (by have := HQ'.out; omega) hgmb (fun h => by have := HAL.out g h; omega) (fun h => hgg (by simpa [Value.ownBlock] using h)) (by simp [Value.ownBlock]) hS9.lt (Or.inr ⟨rfl, hS9⟩) hM9.only HWA.out.1.symm (by omega) (by simp [hnds])
        rw [HQ'.out] at hUP
        have HUP := Lib.hid hUP
        have HPR := HPAIRS
        have hcq1 : (q : Int) ≤ cap := by have := HCQ.out; omega
        have hcq2 : q ≤ cap := by have := HCQ.out; omega
        clear hM9 hS9 hge hcur how hoR hlvc hocnt hUP
        go_wp2_with fail
        refine HUP.out.mono ?_
        rintro e w7 (hok | hno)
        · obtain ⟨rfl, hle, S2, t2, gv2, mv2, hM7, hT7, hG7, hRp7, hwf7, hO7⟩ := hok
          obtain ⟨ga, gc, rfl⟩ := own_slice hM7.gown
          obtain ⟨ma, mc, rfl⟩ := own_slice hM7.mown
          have hR7 := HWA.out.2.2.only hO7 (fun hm => by have := HAL.out _ hm; omega)
          have hB7 := hM7.blk
          have m3 : w7.cell? ⟨gb + 1, 3, none⟩ = some (.int .i64 v1) := hB7.cell 3 rfl
          have m4 : w7.cell? ⟨gb + 1, 4, none⟩ = some (.bool true) := hB7.cell 4 rfl
          have r0 := hR7.cell 0 rfl
          have r1 := hR7.cell 1 rfl
          have r2 := hR7.cell 2 rfl
          have r3 := hR7.cell 3 rfl
          have r4 := hR7.cell 4 rfl
          have q0 := hR7.free 0
          have q1 := hR7.free 1
          have q2 := hR7.free 2
          have q3 := hR7.free 3
          have q4 := hR7.free 4
          have HR7 := Lib.hid hR7
          have HT7 := Lib.hid hT7
          have HG7 := Lib.hid hG7
          have HM7 := Lib.hid hM7
          have HRW := Lib.hid (show Rep n S2 (rebuild W' cur0 (fs0.drop 0)).1 ∧ (rebuild W' cur0 (fs0.drop 0)).1.wf from ⟨hRp7, hwf7⟩)
          have HO7 := Lib.hid hO7
          have HLE := Lib.hid hle
          have hgn : (hnds S0 [ni, si] ++ hnds S0 (goneI W')).length = ([ni, si] ++ goneI W').length := by simp [hnds]
          have hmn : (mds S0 (fs0.take (0 + W'.length))).length = 0 + W'.length := by rw [mds_length, List.length_take]; omega
          have HGN := Lib.hid hgn
          have HMN := Lib.hid hmn
          obtain ⟨gl, hgl⟩ : ∃ gl, (hnds S0 [ni, si] ++ hnds S0 (goneI W')).length = gl := ⟨_, rfl⟩
          obtain ⟨ml, hml⟩ : ∃ ml, (mds S0 (fs0.take (0 + W'.length))).length = ml := ⟨_, rfl⟩
          obtain ⟨yr, hyr⟩ : ∃ yr, hnd S2 (rebuild W' cur0 (fs0.drop 0)).1 = yr := ⟨_, rfl⟩
          have m5 : w7.cell? ⟨gb + 1, 5, none⟩ = some (.slice ga gl gc) := by rw [← hgl]; exact hB7.cell 5 rfl
          have m6 : w7.cell? ⟨gb + 1, 6, none⟩ = some (.slice ma ml mc) := by rw [← hml]; exact hB7.cell 6 rfl
          have m2 : w7.cell? ⟨gb + 1, 2, none⟩ = some (.int .i64 yr) := by rw [← hyr]; exact hB7.cell 2 rfl
          have HGLE := Lib.hid hgl
          have HMLE := Lib.hid hml
          have HYR := Lib.hid hyr
          clear hR7 hT7 hG7 hRp7 hwf7 hO7 hB7 hM7 hle hgn hmn hgl hml hyr
          go_wp2_with fail
          have h5 := HR7.out.fill5 (.int .i64 yr) (.int .i64 v1) (.bool true) (.slice ga gl gc) (.slice ma ml mc)
          generalize (((((w7.setCell ⟨rb, 0, none⟩ (.int .i64 yr)).setCell ⟨rb, 1, none⟩ (.int .i64 v1)).setCell ⟨rb, 2, none⟩ (.bool true)).setCell ⟨rb, 3, none⟩ (.slice ga gl gc)).setCell ⟨rb, 4, none⟩ (.slice ma ml mc)) = w8 at h5 ⊢
          obtain ⟨h5, o5⟩ := h5
          have e0 := h5.cell 0 rfl
          have e1 := h5.cell 1 rfl
          have e2 := h5.cell 2 rfl
          have e3 := h5.cell 3 rfl
          have e4 := h5.cell 4 rfl
          have hpm := edit_perm HWY.out HP12.out.1 HP12.out.2 HLE.out
          have hk12 := HQ'.out
          have hgb : ∀ b, (Value.slice ga (hnds S0 [ni, si] ++ hnds S0 (goneI W')).length gc).ownBlock = some b → b ∉ [rb] := fun b hb hm => by
            have := (HM7.out.gown.lt b hb).1
            simp at hm; omega
          have hmb : ∀ b, (Value.slice ma (mds S0 (fs0.take (0 + W'.length))).length mc).ownBlock = some b → b ∉ [rb] := fun b hb hm => by
            have := (HM7.out.mown.lt b hb).1
            simp at hm; omega
          refine bodyPost_ret (v := .tuple #[.agg #[.int .i64 yr, .int .i64 v1, .bool true, .slice ga gl gc, .slice ma ml mc], .int .i64 0]) (by simp [results, Try.results22, go_sem, e0, e1, e2, e3, e4]) rfl (Or.inl ⟨some (rebuild W' cur0 (fs0.drop 0)).1, S2, t2, 0 + W'.length, [ni, si] ++ goneI W', othersOf W' ++ cur0.slots, .slice ga gl gc, .slice ma ml mc, ?_, HRW.out, HPR.out _, HG7.out, ?_, ?_, ?_, hpm.1, hpm.2, ?_, by omega, ?_, Or.inr ⟨by rw [HW.out, HWS.out]; simp, by rw [HW.out, HWS.out]; simp [goneI_length]⟩⟩)
          · rw [show rootOf S2 (some (rebuild W' cur0 (fs0.drop 0)).1) = yr from HYR.out, HOLD.out.1, HOLD.out.2]
          · exact HT7.out.other o5 (fun hm => by simp at hm; have := HLT.out.1; have := HRB.out; omega) (fun k hk hm => by simp at hm; subst hm; have := HAL.out _ hk; omega)
          · have := (ownsRow_only HM7.out.gown o5 hgb).mono (show w.heap.size ≤ rb + 1 by have := HRB.out; omega)
            rw [HGLE.out] at this
            rw [← HGN.out, HGLE.out]
            simpa [hnds] using this
          · have := (ownsRow_only HM7.out.mown o5 hmb).mono (show w.heap.size ≤ rb + 1 by have := HRB.out; omega)
            rw [HMLE.out] at this
            have e : 0 + W'.length = ml := HMN.out.symm.trans HMLE.out
            rw [e] at this ⊢
            exact this
          · rw [List.length_append, goneI_length]; omega
          · exact ((HWA.out.2.1.mono (by simp) : Only A.all w wA).trans HO7.out).past o5 (fun b hb => by simp at hb; right; have := HRB.out; omega)
        · have he := hno.1
          subst he
          have HNEED : Hid (fs0.length < (down x a1).1.length) := Lib.hid (by have h1 := hno.2.1; rw [HW.out, HWS.out]; simp; omega)
          obtain ⟨_, _, hB7, S2, t2, hT7, hU7, ht7, hO7⟩ := hno
          have hR7 := HWA.out.2.2.only hO7 (fun hm => by have := HAL.out _ hm; omega)
          have m2 := hB7.cell 2 rfl
          have m3 := hB7.cell 3 rfl
          have m4 := hB7.cell 4 rfl
          have m5 := hB7.cell 5 rfl
          have m6 := hB7.cell 6 rfl
          have r0 := hR7.cell 0 rfl
          have r1 := hR7.cell 1 rfl
          have r2 := hR7.cell 2 rfl
          have r3 := hR7.cell 3 rfl
          have r4 := hR7.cell 4 rfl
          have q0 := hR7.free 0
          have q1 := hR7.free 1
          have q2 := hR7.free 2
          have q3 := hR7.free 3
          have q4 := hR7.free 4
          have HR7 := Lib.hid hR7
          have HT7 := Lib.hid hT7
          have HU7 := Lib.hid hU7
          have Ht7 := Lib.hid ht7
          have HO7 := Lib.hid hO7
          clear hR7 hT7 hU7 ht7 hO7 hB7
          go_wp2_with fail
          have h5 := HR7.out.fill5 (.int .i64 0) (.int .i64 0) (.bool false) (.slice none 0 0) (.slice none 0 0)
          generalize (((((w7.setCell ⟨rb, 0, none⟩ (.int .i64 0)).setCell ⟨rb, 1, none⟩ (.int .i64 0)).setCell ⟨rb, 2, none⟩ (.bool false)).setCell ⟨rb, 3, none⟩ (.slice none 0 0)).setCell ⟨rb, 4, none⟩ (.slice none 0 0)) = w8 at h5 ⊢
          obtain ⟨h5, o5⟩ := h5
          have e0 := h5.cell 0 rfl
          have e1 := h5.cell 1 rfl
          have e2 := h5.cell 2 rfl
          have e3 := h5.cell 3 rfl
          have e4 := h5.cell 4 rfl
          refine bodyPost_ret (v := .tuple #[.agg #[.int .i64 0, .int .i64 0, .bool false, .slice none 0 0, .slice none 0 0], .int .i64 102]) (by simp [results, Try.results22, go_sem, e0, e1, e2, e3, e4]) rfl (Or.inr ⟨HNEED.out, rfl, S2, t2, ?_, HU7.out, Ht7.out, ?_⟩)
          · exact HT7.out.other o5 (fun hm => by simp at hm; have := HLT.out.1; have := HRB.out; omega) (fun k hk hm => by simp at hm; subst hm; have := HAL.out _ hk; omega)
          · exact ((HWA.out.2.1.mono (by simp) : Only A.all w wA).trans HO7.out).past o5 (fun b hb => by simp at hb; right; have := HRB.out; omega)

theorem drop_hit {A : PA} {n : Nat} {S0 : Nat → Sl} {fs0 : List Nat} {t0 fa c0 : Int} {tb : Nat} {x : Tr} {ni : Nat} {k v0 : Int} {w : World} (T : TrAt w tb A n S0 t0 fs0 fa) (F : Fre n S0 fs0 c0) (hc : c0 < 999998) (ht : t0 + 2 * fs0.length ≤ 1000000) (R : Rep n S0 x) (wf : x.wf) (hk : 0 ≤ k ∧ k ≤ 4294967295) (hhit : (down x k).2 = .leaf ni k v0) :
    Calls Try.prog 22 #[.pointer (some ⟨tb, 0, none⟩), .pointer none, .int .i64 (hnd S0 x), .int .i64 k] w fun e w' => EdOk A n S0 fs0 t0 fa tb (some x) (oldOf x.pairs k) (hadOf x.pairs k) (del x.pairs k) w e w' ∨ EdNo A n S0 fs0 t0 fa tb w e w' :=
  (drop_hit_x T F hc ht R wf hk hhit).mono fun _ _ h => h.imp (fun h => h.ok) (fun h => h.2)

end Go.Proofs.Ytacegkjobfeiiaa

