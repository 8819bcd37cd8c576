/- The statement's changed, as a call: definitions; a key that is none or not there. Conditions: the map stands in memory as TrAt, RepO and RowP say, the free places as Fre says. -/
import Derived.Test.YtacegkjobfeiiaaCTrieEf
set_option linter.unusedVariables false
set_option linter.unusedSimpArgs false
set_option linter.unusedSectionVars false
set_option linter.unnecessarySimpa false
namespace Go.Proofs.Ytacegkjobfeiiaa
open Go.RowKit

set_option maxRecDepth 100000 in
set_option maxHeartbeats 4000000 in
theorem changed_drop_low {A : PA} {n : Nat} {S0 : Nat → Sl} {fs0 : List Nat} {t0 fa c0 : Int} {tb g : Nat} {ao : Option Addr} {cap : Nat} {ox : Option Tr} {of k v : Int} {w : World} (T : TrAt w tb A n S0 t0 fs0 fa) (F : Fre n S0 fs0 c0) (hc : c0 < 999998) (ht : t0 + 2 * fs0.length ≤ 1000000) (R : RepO n S0 ox) (hrow : RowP w g ao cap (prs ox)) (hgA : g ∉ A.all) (hl : (prs ox).length ≤ 1000) (hk : k < 0) :
    Calls Try.prog 10 #[.pointer (some ⟨A.p, 0, none⟩), .pointer (some ⟨tb, 0, none⟩), .agg #[.int .i64 (rootOf S0 ox), .slice ao (prs ox).length cap], .agg #[.int .i64 of, .int .i64 k, .int .i64 v, .bool true]] w (ChgErr w) := by
  have hez := edit_zero
  have HT := Lib.hid T
  have HIN := Lib.hid (show Fre n S0 fs0 c0 ∧ c0 < 999998 ∧ t0 + 2 * fs0.length ≤ 1000000 ∧ RepO n S0 ox ∧ RowP w g ao cap (prs ox) ∧ g ∉ A.all ∧ (prs ox).length ≤ 1000 from ⟨F, hc, ht, R, hrow, hgA, hl⟩)
  have f1 : decide (k < 0) = true := by simpa using hk
  have HK : Hid (¬ (0 ≤ k ∧ k ≤ 4294967295)) := Lib.hid (by omega)
  clear hk
  have HVAL := Lib.hid (fun W (o : Only [] w W) => law_value (k := k) (hrow.only o (by simp)) (show (prs ox).length ≤ 1000000 by omega))
  have HWITH := Lib.hid (fun W (o : Only A.all w W) => law_with (k := k) (u := v) (hrow.only o hgA) (show (prs ox).length ≤ 100000 by omega))
  have HWOUT := Lib.hid (fun W (o : Only A.all w W) => law_without (k := k) (hrow.only o hgA) (show (prs ox).length ≤ 100000 by omega))
  have hlf : fs0.length ≤ 4096 := by
    have h1 := nodup_length n fs0 F.nodup (fun x hx => by have := F.rng x hx; omega)
    have := T.pool.many.2
    omega
  obtain ⟨rt, hrt⟩ : ∃ u, rootOf S0 ox = u := ⟨_, rfl⟩
  obtain ⟨ln, hln⟩ : ∃ u, (prs ox).length = u := ⟨_, rfl⟩
  obtain ⟨old, hold⟩ : ∃ u, (valL (prs ox) k).1 = u := ⟨_, rfl⟩
  obtain ⟨hd, hhd⟩ : ∃ u, (valL (prs ox) k).2 = u := ⟨_, rfl⟩
  obtain ⟨lf, hlfe⟩ : ∃ u, fs0.length = u := ⟨_, rfl⟩
  rw [hold, hhd, hln] at HVAL
  rw [hln] at HWITH HWOUT
  rw [hrt, hln]
  rw [hlfe] at hlf
  have HNM := Lib.hid (show rootOf S0 ox = rt ∧ (prs ox).length = ln ∧ (valL (prs ox) k).1 = old ∧ (valL (prs ox) k).2 = hd ∧ fs0.length = lf from ⟨hrt, hln, hold, hhd, hlfe⟩)
  clear T F hc ht R hrow hgA hl hrt hln hold hhd hlfe
  go_enter Try.func10, Try.ntmps10
  go_upto_region 1 with fail
  refine wp_name (fun w1 => Blk w1 w.heap.size #[.int .i64 rt, .slice ao ln cap] 33 ∧ Blk w1 (w.heap.size + 1) #[.int .i64 of, .int .i64 k, .int .i64 v, .bool true] 42 ∧ Blk w1 (w.heap.size + 1 + 1) #[.int .i64 0, .int .i64 0, .bool false, .slice none 0 0, .slice none 0 0] 38 ∧ Only [] w w1) ⟨((Blk.new _ _ _).alloc _).alloc _, ?_, ?_, ((Only.alloc [] _ _).trans (Only.alloc [] _ _)).trans (Only.alloc [] _ _)⟩ ?_
  · have := (Blk.new (w.alloc (.cells #[.int .i64 rt, .slice ao ln cap] 33)) #[.int .i64 of, .int .i64 k, .int .i64 v, .bool true] 42).alloc (.cells #[.int .i64 0, .int .i64 0, .bool false, .slice none 0 0, .slice none 0 0] 38)
    simpa using this
  · have := Blk.new ((w.alloc (.cells #[.int .i64 rt, .slice ao ln cap] 33)).alloc (.cells #[.int .i64 of, .int .i64 k, .int .i64 v, .bool true] 42)) #[.int .i64 0, .int .i64 0, .bool false, .slice none 0 0, .slice none 0 0] 38
    simpa using this
  obtain ⟨b6, hb6⟩ : ∃ b, w.heap.size = b := ⟨_, rfl⟩
  obtain ⟨b7, hb7⟩ : ∃ b, w.heap.size + 1 = b := ⟨_, rfl⟩
  obtain ⟨b9, hb9⟩ : ∃ b, w.heap.size + 1 + 1 = b := ⟨_, rfl⟩
  have HBB := Lib.hid (show w.heap.size = b6 ∧ b7 = b6 + 1 ∧ b9 = b6 + 2 from ⟨hb6, by omega, by omega⟩)
  rw [hb9, hb7, hb6]
  clear hb6 hb7 hb9
  rintro w1 ⟨h6, h7, h9, hX1⟩
  have H6 := Lib.hid h6
  have H7 := Lib.hid h7
  have H9 := Lib.hid h9
  have HX1 := Lib.hid hX1
  have c61 := h6.cell 1 rfl
  have c71 := h7.cell 1 rfl
  clear h6 h7 h9 hX1
  go_wp2_with fail
  refine (HVAL.out _ HX1.out).mono ?_
  rintro e w2 ⟨rfl, hX2⟩
  have H6 := Lib.hid (H6.out.only hX2 (by simp))
  have H7 := Lib.hid (H7.out.only hX2 (by simp))
  have H9 := Lib.hid (H9.out.only hX2 (by simp))
  have HX2 := Lib.hid (HX1.out.trans hX2)
  clear hX2 c61 c71 HX1 HVAL
  go_wp2_with fail
  refine (pool_free A n S0 t0 fs0 fa _ (HT.out.plain HX2.out).pool).mono ?_
  rintro e w3 ⟨v3, rfl, hown3, hX3⟩
  obtain ⟨ad3, cap3, rfl⟩ := own_slice_any hown3
  rw [HNM.out.2.2.2.2]
  have H6 := Lib.hid (H6.out.only hX3 (by simp))
  have H7 := Lib.hid (H7.out.only hX3 (by simp))
  have H9 := Lib.hid (H9.out.only hX3 (by simp))
  have HX3 := Lib.hid (HX2.out.trans hX3)
  clear hX3 hown3 HX2
  go_upto_region 5 with fail
  refine wp_name (fun w4 => Blk w4 b6 #[.int .i64 rt, .slice ao ln cap] 33 ∧ Blk w4 b7 #[.int .i64 of, .int .i64 k, .int .i64 v, .bool true] 42 ∧ Blk w4 b9 #[.int .i64 0, .int .i64 0, .bool false, .slice none 0 0, .slice none 0 0] 38 ∧ Blk w4 w3.heap.size #[.int .i64 0, .int .i64 0, .bool false, .slice none 0 0, .slice none 0 0] 38 ∧ Only [] w w4) ⟨H6.out.alloc _, H7.out.alloc _, H9.out.alloc _, Blk.new _ _ _, HX3.out.trans (Only.alloc _ _ _)⟩ ?_
  have hb14 : b9 < w3.heap.size := H9.out.lt
  obtain ⟨bE, hbE⟩ : ∃ b, w3.heap.size = b := ⟨_, rfl⟩
  rw [hbE] at hb14 ⊢
  have HBE := Lib.hid hb14
  clear hbE hb14 H6 H7 H9 HX3 hez
  rintro w4 ⟨h6, h7, h9, hE, hX4⟩
  have H6 := Lib.hid h6
  have H7 := Lib.hid h7
  have H9 := Lib.hid h9
  have HE := Lib.hid hE
  have HX4 := Lib.hid hX4
  have c60 := h6.cell 0 rfl
  have c71 := h7.cell 1 rfl
  have c72 := h7.cell 2 rfl
  have c73 := h7.cell 3 rfl
  have HCALL := Lib.hid (drop_bad (tb := tb) (r := rootOf S0 ox) (w := w4) HK.out)
  rw [HNM.out.1] at HCALL
  clear h6 h7 h9 hE hX4
  go_wp2_with fail
  refine HCALL.out.mono ?_
  rintro e w5 hER
  obtain ⟨rfl, hX5e⟩ := hER
  have HXE := Lib.hid (HX4.out.trans hX5e)
  have hX5 : Only A.all w4 w5 := hX5e.mono (by simp)
  have HT5 := Lib.hid (HT.out.plain HXE.out)
  clear hX5e
  have hlt4 : ∀ b, b = b6 ∨ b = b7 ∨ b = b9 ∨ b = bE → b ∉ A.all := by
    intro b hb hm
    have h1 := HT.out.lt.2 b hm
    have h2 := HBB.out
    have h3 := HBE.out
    rcases hb with rfl | rfl | rfl | rfl <;> omega
  have H6 := Lib.hid (H6.out.only hX5 (hlt4 _ (Or.inl rfl)))
  have H7 := Lib.hid (H7.out.only hX5 (hlt4 _ (Or.inr (Or.inl rfl))))
  have H9 := Lib.hid (H9.out.only hX5 (hlt4 _ (Or.inr (Or.inr (Or.inl rfl)))))
  have hE := HE.out.only hX5 (hlt4 _ (Or.inr (Or.inr (Or.inr rfl))))
  have HE := Lib.hid hE
  have HX5 := Lib.hid ((HX4.out.mono (by simp)).trans hX5)
  have q0 := hE.free 0
  have q1 := hE.free 1
  have q2 := hE.free 2
  have q3 := hE.free 3
  have q4 := hE.free 4
  have z0 := hE.cell 0 rfl
  have z1 := hE.cell 1 rfl
  have z2 := hE.cell 2 rfl
  have z3 := hE.cell 3 rfl
  have z4 := hE.cell 4 rfl
  clear hX5 hE hlt4 HX4 HCALL c60 c71 c72 c73
  go_upto_region 8 with fail
  refine wp_name (fun w6 => Blk w6 bE #[.int .i64 0, .int .i64 0, .bool false, .slice none 0 0, .slice none 0 0] 38 ∧ Only [bE] w5 w6) (HE.out.fill5 _ _ _ _ _) ?_
  clear q0 q1 q2 q3 q4 z0 z1 z2 z3 z4 HE
  rintro w6 ⟨hE6, hX6⟩
  have HE6 := Lib.hid hE6
  have H76 := Lib.hid (H7.out.only hX6 (by have := HBB.out; have := HBE.out; simp; omega))
  have H96 := Lib.hid (H9.out.only hX6 (by have := HBB.out; have := HBE.out; simp; omega))
  have HT6 : Hid (TrAt w6 tb A n S0 t0 fs0 fa) := by
    have h1 := HT.out.lt
    have h2 := HBB.out
    have h3 := HBE.out
    exact Lib.hid (HT5.out.other hX6 (by simp; omega) (fun k hk hm => by have := h1.2 k hk; simp at hm; omega))
  have HX56 := Lib.hid hX6
  clear hE6 hX6 H6 H7 H9
  have c71 := H76.out.cell 1 rfl
  have c73 := H76.out.cell 3 rfl
  go_upto_region 13 with (go_at_call 8; refine (num_12 _ _).mono ?_; rintro e w' ⟨rfl, rfl⟩)
  have HKP : Hid (∀ W, Only [b9] w6 W → W.cell? ⟨bE, 0, none⟩ = some (.int .i64 0) ∧ W.cell? ⟨bE, 1, none⟩ = some (.int .i64 0) ∧ W.cell? ⟨bE, 2, none⟩ = some (.bool false) ∧ W.cell? ⟨bE, 3, none⟩ = some (.slice none 0 0) ∧ W.cell? ⟨bE, 4, none⟩ = some (.slice none 0 0)) := Lib.hid (fun W o => by
    have h3 := HBE.out
    have h := HE6.out.only o (by simp; omega)
    exact ⟨h.cell 0 rfl, h.cell 1 rfl, h.cell 2 rfl, h.cell 3 rfl, h.cell 4 rfl⟩)
  obtain ⟨kE0, kE1, kE2, kE3, kE4⟩ := HKP.out _ (Only.drew [b9] w6)
  have b3 : ((lf : Int) == lf) = true := by simp
  have HFR := Lib.hid (fun W (o : Only [] w6 W) => pool_free A n S0 t0 fs0 fa W (HT6.out.plain o).pool)
  rw [HNM.out.2.2.2.2] at HFR
  have HST : Hid (∀ (W : World), Only [] w6 W → Blk W b9 #[.int .i64 0, .int .i64 0, .bool false, .slice none 0 0, .slice none 0 0] 38) := Lib.hid (fun W o => H96.out.only o (by simp))
  have HS5 : Hid (∀ W, Only [] w6 W → Only [b9] w6 (((((W.setCell ⟨b9, 0, none⟩ (.int .i64 0)).setCell ⟨b9, 1, none⟩ (.int .i64 0)).setCell ⟨b9, 2, none⟩ (.bool false)).setCell ⟨b9, 3, none⟩ (.slice none 0 0)).setCell ⟨b9, 4, none⟩ (.slice none 0 0))) := Lib.hid (fun W o => (o.mono (by simp)).trans ((HST.out W o).fill5 _ _ _ _ _).2)
  go_cut [8, 10] (fun s8 s10 wz => s8 = .pointer none ∧ s10 = .bool true ∧ Blk wz b9 #[.int .i64 0, .int .i64 0, .bool false, .slice none 0 0, .slice none 0 0] 38 ∧ Only [b9] w6 wz)
  case first =>
    go_region_held3 (fun W => W.cell? ⟨bE, 0, none⟩ = some (.int .i64 0) ∧ W.cell? ⟨bE, 1, none⟩ = some (.int .i64 0) ∧ W.cell? ⟨bE, 2, none⟩ = some (.bool false) ∧ W.cell? ⟨bE, 3, none⟩ = some (.slice none 0 0) ∧ W.cell? ⟨bE, 4, none⟩ = some (.slice none 0 0))
      (first | with_reducible exact ⟨kE0, kE1, kE2, kE3, kE4⟩ | with_reducible exact HKP.out _ (HX8.out.mono (by simp)) | with_reducible exact HKP.out _ (HS5.out _ HX8.out))
      (first | (go_at_call 23; refine (HFR.out _ (Only.drew [] w6)).mono ?_; rintro e w8 ⟨v8, rfl, hown8, hX8⟩; obtain ⟨ad8, cap8, rfl⟩ := own_slice_any hown8; have hX8' := (Only.drew [] w6).trans hX8; have h8 := HST.out _ hX8'; have z0 := h8.cell 0 rfl; have z1 := h8.cell 1 rfl; have z2 := h8.cell 2 rfl; have z3 := h8.cell 3 rfl; have z4 := h8.cell 4 rfl; have q0 := h8.free 0; have q1 := h8.free 1; have q2 := h8.free 2; have q3 := h8.free 3; have q4 := h8.free 4; have HX8 := Lib.hid hX8'; clear hown8 hX8 hX8' h8))
    all_goals go_wp2_with fail
    all_goals go_meet
    all_goals exact ⟨rfl, rfl, ((HST.out _ HX8.out).fill5 _ _ _ _ _).1, HS5.out _ HX8.out⟩
  case rest =>
  obtain ⟨rfl, rfl, hZ, hXZ⟩ := hcut
  have r0 := hZ.cell 0 rfl
  have r1 := hZ.cell 1 rfl
  have r2 := hZ.cell 2 rfl
  have r3 := hZ.cell 3 rfl
  have r4 := hZ.cell 4 rfl
  have HXZ := Lib.hid hXZ
  clear hZ hXZ kE0 kE1 kE2 kE3 kE4 b3 HKP HFR HST HS5 c71 c73
  go_wp2_with fail
  refine bodyPost_ret (v := .tuple #[.pointer none, editZ, .bool true]) (by simp [editZ, results, Try.results10, go_sem, r0, r1, r2, r3, r4]) rfl ?_
  clear r0 r1 r2 r3 r4
  have hbb := HBB.out
  have hbe := HBE.out
  have hlt := HT.out.lt
  have hs6 := HX56.out.size
  exact ⟨rfl, (HXE.out.past HX56.out (fun i hi => Or.inr (by simp at hi; omega))).past HXZ.out (fun i hi => Or.inr (by simp at hi; omega))⟩

set_option maxRecDepth 100000 in
set_option maxHeartbeats 4000000 in
theorem changed_drop_high {A : PA} {n : Nat} {S0 : Nat → Sl} {fs0 : List Nat} {t0 fa c0 : Int} {tb g : Nat} {ao : Option Addr} {cap : Nat} {ox : Option Tr} {of k v : Int} {w : World} (T : TrAt w tb A n S0 t0 fs0 fa) (F : Fre n S0 fs0 c0) (hc : c0 < 999998) (ht : t0 + 2 * fs0.length ≤ 1000000) (R : RepO n S0 ox) (hrow : RowP w g ao cap (prs ox)) (hgA : g ∉ A.all) (hl : (prs ox).length ≤ 1000) (hk : 4294967295 < k) :
    Calls Try.prog 10 #[.pointer (some ⟨A.p, 0, none⟩), .pointer (some ⟨tb, 0, none⟩), .agg #[.int .i64 (rootOf S0 ox), .slice ao (prs ox).length cap], .agg #[.int .i64 of, .int .i64 k, .int .i64 v, .bool true]] w (ChgErr w) := by
  have hez := edit_zero
  have HT := Lib.hid T
  have HIN := Lib.hid (show Fre n S0 fs0 c0 ∧ c0 < 999998 ∧ t0 + 2 * fs0.length ≤ 1000000 ∧ RepO n S0 ox ∧ RowP w g ao cap (prs ox) ∧ g ∉ A.all ∧ (prs ox).length ≤ 1000 from ⟨F, hc, ht, R, hrow, hgA, hl⟩)
  have f1 : decide (k < 0) = false := by simp; omega
  have f2 : decide (4294967295 < k) = true := by simpa using hk
  have HK : Hid (¬ (0 ≤ k ∧ k ≤ 4294967295)) := Lib.hid (by omega)
  clear hk
  have HVAL := Lib.hid (fun W (o : Only [] w W) => law_value (k := k) (hrow.only o (by simp)) (show (prs ox).length ≤ 1000000 by omega))
  have HWITH := Lib.hid (fun W (o : Only A.all w W) => law_with (k := k) (u := v) (hrow.only o hgA) (show (prs ox).length ≤ 100000 by omega))
  have HWOUT := Lib.hid (fun W (o : Only A.all w W) => law_without (k := k) (hrow.only o hgA) (show (prs ox).length ≤ 100000 by omega))
  have hlf : fs0.length ≤ 4096 := by
    have h1 := nodup_length n fs0 F.nodup (fun x hx => by have := F.rng x hx; omega)
    have := T.pool.many.2
    omega
  obtain ⟨rt, hrt⟩ : ∃ u, rootOf S0 ox = u := ⟨_, rfl⟩
  obtain ⟨ln, hln⟩ : ∃ u, (prs ox).length = u := ⟨_, rfl⟩
  obtain ⟨old, hold⟩ : ∃ u, (valL (prs ox) k).1 = u := ⟨_, rfl⟩
  obtain ⟨hd, hhd⟩ : ∃ u, (valL (prs ox) k).2 = u := ⟨_, rfl⟩
  obtain ⟨lf, hlfe⟩ : ∃ u, fs0.length = u := ⟨_, rfl⟩
  rw [hold, hhd, hln] at HVAL
  rw [hln] at HWITH HWOUT
  rw [hrt, hln]
  rw [hlfe] at hlf
  have HNM := Lib.hid (show rootOf S0 ox = rt ∧ (prs ox).length = ln ∧ (valL (prs ox) k).1 = old ∧ (valL (prs ox) k).2 = hd ∧ fs0.length = lf from ⟨hrt, hln, hold, hhd, hlfe⟩)
  clear T F hc ht R hrow hgA hl hrt hln hold hhd hlfe
  go_enter Try.func10, Try.ntmps10
  go_upto_region 1 with fail
  refine wp_name (fun w1 => Blk w1 w.heap.size #[.int .i64 rt, .slice ao ln cap] 33 ∧ Blk w1 (w.heap.size + 1) #[.int .i64 of, .int .i64 k, .int .i64 v, .bool true] 42 ∧ Blk w1 (w.heap.size + 1 + 1) #[.int .i64 0, .int .i64 0, .bool false, .slice none 0 0, .slice none 0 0] 38 ∧ Only [] w w1) ⟨((Blk.new _ _ _).alloc _).alloc _, ?_, ?_, ((Only.alloc [] _ _).trans (Only.alloc [] _ _)).trans (Only.alloc [] _ _)⟩ ?_
  · have := (Blk.new (w.alloc (.cells #[.int .i64 rt, .slice ao ln cap] 33)) #[.int .i64 of, .int .i64 k, .int .i64 v, .bool true] 42).alloc (.cells #[.int .i64 0, .int .i64 0, .bool false, .slice none 0 0, .slice none 0 0] 38)
    simpa using this
  · have := Blk.new ((w.alloc (.cells #[.int .i64 rt, .slice ao ln cap] 33)).alloc (.cells #[.int .i64 of, .int .i64 k, .int .i64 v, .bool true] 42)) #[.int .i64 0, .int .i64 0, .bool false, .slice none 0 0, .slice none 0 0] 38
    simpa using this
  obtain ⟨b6, hb6⟩ : ∃ b, w.heap.size = b := ⟨_, rfl⟩
  obtain ⟨b7, hb7⟩ : ∃ b, w.heap.size + 1 = b := ⟨_, rfl⟩
  obtain ⟨b9, hb9⟩ : ∃ b, w.heap.size + 1 + 1 = b := ⟨_, rfl⟩
  have HBB := Lib.hid (show w.heap.size = b6 ∧ b7 = b6 + 1 ∧ b9 = b6 + 2 from ⟨hb6, by omega, by omega⟩)
  rw [hb9, hb7, hb6]
  clear hb6 hb7 hb9
  rintro w1 ⟨h6, h7, h9, hX1⟩
  have H6 := Lib.hid h6
  have H7 := Lib.hid h7
  have H9 := Lib.hid h9
  have HX1 := Lib.hid hX1
  have c61 := h6.cell 1 rfl
  have c71 := h7.cell 1 rfl
  clear h6 h7 h9 hX1
  go_wp2_with fail
  refine (HVAL.out _ HX1.out).mono ?_
  rintro e w2 ⟨rfl, hX2⟩
  have H6 := Lib.hid (H6.out.only hX2 (by simp))
  have H7 := Lib.hid (H7.out.only hX2 (by simp))
  have H9 := Lib.hid (H9.out.only hX2 (by simp))
  have HX2 := Lib.hid (HX1.out.trans hX2)
  clear hX2 c61 c71 HX1 HVAL
  go_wp2_with fail
  refine (pool_free A n S0 t0 fs0 fa _ (HT.out.plain HX2.out).pool).mono ?_
  rintro e w3 ⟨v3, rfl, hown3, hX3⟩
  obtain ⟨ad3, cap3, rfl⟩ := own_slice_any hown3
  rw [HNM.out.2.2.2.2]
  have H6 := Lib.hid (H6.out.only hX3 (by simp))
  have H7 := Lib.hid (H7.out.only hX3 (by simp))
  have H9 := Lib.hid (H9.out.only hX3 (by simp))
  have HX3 := Lib.hid (HX2.out.trans hX3)
  clear hX3 hown3 HX2
  go_upto_region 5 with fail
  refine wp_name (fun w4 => Blk w4 b6 #[.int .i64 rt, .slice ao ln cap] 33 ∧ Blk w4 b7 #[.int .i64 of, .int .i64 k, .int .i64 v, .bool true] 42 ∧ Blk w4 b9 #[.int .i64 0, .int .i64 0, .bool false, .slice none 0 0, .slice none 0 0] 38 ∧ Blk w4 w3.heap.size #[.int .i64 0, .int .i64 0, .bool false, .slice none 0 0, .slice none 0 0] 38 ∧ Only [] w w4) ⟨H6.out.alloc _, H7.out.alloc _, H9.out.alloc _, Blk.new _ _ _, HX3.out.trans (Only.alloc _ _ _)⟩ ?_
  have hb14 : b9 < w3.heap.size := H9.out.lt
  obtain ⟨bE, hbE⟩ : ∃ b, w3.heap.size = b := ⟨_, rfl⟩
  rw [hbE] at hb14 ⊢
  have HBE := Lib.hid hb14
  clear hbE hb14 H6 H7 H9 HX3 hez
  rintro w4 ⟨h6, h7, h9, hE, hX4⟩
  have H6 := Lib.hid h6
  have H7 := Lib.hid h7
  have H9 := Lib.hid h9
  have HE := Lib.hid hE
  have HX4 := Lib.hid hX4
  have c60 := h6.cell 0 rfl
  have c71 := h7.cell 1 rfl
  have c72 := h7.cell 2 rfl
  have c73 := h7.cell 3 rfl
  have HCALL := Lib.hid (drop_bad (tb := tb) (r := rootOf S0 ox) (w := w4) HK.out)
  rw [HNM.out.1] at HCALL
  clear h6 h7 h9 hE hX4
  go_wp2_with fail
  refine HCALL.out.mono ?_
  rintro e w5 hER
  obtain ⟨rfl, hX5e⟩ := hER
  have HXE := Lib.hid (HX4.out.trans hX5e)
  have hX5 : Only A.all w4 w5 := hX5e.mono (by simp)
  have HT5 := Lib.hid (HT.out.plain HXE.out)
  clear hX5e
  have hlt4 : ∀ b, b = b6 ∨ b = b7 ∨ b = b9 ∨ b = bE → b ∉ A.all := by
    intro b hb hm
    have h1 := HT.out.lt.2 b hm
    have h2 := HBB.out
    have h3 := HBE.out
    rcases hb with rfl | rfl | rfl | rfl <;> omega
  have H6 := Lib.hid (H6.out.only hX5 (hlt4 _ (Or.inl rfl)))
  have H7 := Lib.hid (H7.out.only hX5 (hlt4 _ (Or.inr (Or.inl rfl))))
  have H9 := Lib.hid (H9.out.only hX5 (hlt4 _ (Or.inr (Or.inr (Or.inl rfl)))))
  have hE := HE.out.only hX5 (hlt4 _ (Or.inr (Or.inr (Or.inr rfl))))
  have HE := Lib.hid hE
  have HX5 := Lib.hid ((HX4.out.mono (by simp)).trans hX5)
  have q0 := hE.free 0
  have q1 := hE.free 1
  have q2 := hE.free 2
  have q3 := hE.free 3
  have q4 := hE.free 4
  have z0 := hE.cell 0 rfl
  have z1 := hE.cell 1 rfl
  have z2 := hE.cell 2 rfl
  have z3 := hE.cell 3 rfl
  have z4 := hE.cell 4 rfl
  clear hX5 hE hlt4 HX4 HCALL c60 c71 c72 c73
  go_upto_region 8 with fail
  refine wp_name (fun w6 => Blk w6 bE #[.int .i64 0, .int .i64 0, .bool false, .slice none 0 0, .slice none 0 0] 38 ∧ Only [bE] w5 w6) (HE.out.fill5 _ _ _ _ _) ?_
  clear q0 q1 q2 q3 q4 z0 z1 z2 z3 z4 HE
  rintro w6 ⟨hE6, hX6⟩
  have HE6 := Lib.hid hE6
  have H76 := Lib.hid (H7.out.only hX6 (by have := HBB.out; have := HBE.out; simp; omega))
  have H96 := Lib.hid (H9.out.only hX6 (by have := HBB.out; have := HBE.out; simp; omega))
  have HT6 : Hid (TrAt w6 tb A n S0 t0 fs0 fa) := by
    have h1 := HT.out.lt
    have h2 := HBB.out
    have h3 := HBE.out
    exact Lib.hid (HT5.out.other hX6 (by simp; omega) (fun k hk hm => by have := h1.2 k hk; simp at hm; omega))
  have HX56 := Lib.hid hX6
  clear hE6 hX6 H6 H7 H9
  have c71 := H76.out.cell 1 rfl
  have c73 := H76.out.cell 3 rfl
  go_upto_region 13 with (go_at_call 8; refine (num_12 _ _).mono ?_; rintro e w' ⟨rfl, rfl⟩)
  have HKP : Hid (∀ W, Only [b9] w6 W → W.cell? ⟨bE, 0, none⟩ = some (.int .i64 0) ∧ W.cell? ⟨bE, 1, none⟩ = some (.int .i64 0) ∧ W.cell? ⟨bE, 2, none⟩ = some (.bool false) ∧ W.cell? ⟨bE, 3, none⟩ = some (.slice none 0 0) ∧ W.cell? ⟨bE, 4, none⟩ = some (.slice none 0 0)) := Lib.hid (fun W o => by
    have h3 := HBE.out
    have h := HE6.out.only o (by simp; omega)
    exact ⟨h.cell 0 rfl, h.cell 1 rfl, h.cell 2 rfl, h.cell 3 rfl, h.cell 4 rfl⟩)
  obtain ⟨kE0, kE1, kE2, kE3, kE4⟩ := HKP.out _ (Only.drew [b9] w6)
  have b3 : ((lf : Int) == lf) = true := by simp
  have HFR := Lib.hid (fun W (o : Only [] w6 W) => pool_free A n S0 t0 fs0 fa W (HT6.out.plain o).pool)
  rw [HNM.out.2.2.2.2] at HFR
  have HST : Hid (∀ (W : World), Only [] w6 W → Blk W b9 #[.int .i64 0, .int .i64 0, .bool false, .slice none 0 0, .slice none 0 0] 38) := Lib.hid (fun W o => H96.out.only o (by simp))
  have HS5 : Hid (∀ W, Only [] w6 W → Only [b9] w6 (((((W.setCell ⟨b9, 0, none⟩ (.int .i64 0)).setCell ⟨b9, 1, none⟩ (.int .i64 0)).setCell ⟨b9, 2, none⟩ (.bool false)).setCell ⟨b9, 3, none⟩ (.slice none 0 0)).setCell ⟨b9, 4, none⟩ (.slice none 0 0))) := Lib.hid (fun W o => (o.mono (by simp)).trans ((HST.out W o).fill5 _ _ _ _ _).2)
  go_cut [8, 10] (fun s8 s10 wz => s8 = .pointer none ∧ s10 = .bool true ∧ Blk wz b9 #[.int .i64 0, .int .i64 0, .bool false, .slice none 0 0, .slice none 0 0] 38 ∧ Only [b9] w6 wz)
  case first =>
    go_region_held3 (fun W => W.cell? ⟨bE, 0, none⟩ = some (.int .i64 0) ∧ W.cell? ⟨bE, 1, none⟩ = some (.int .i64 0) ∧ W.cell? ⟨bE, 2, none⟩ = some (.bool false) ∧ W.cell? ⟨bE, 3, none⟩ = some (.slice none 0 0) ∧ W.cell? ⟨bE, 4, none⟩ = some (.slice none 0 0))
      (first | with_reducible exact ⟨kE0, kE1, kE2, kE3, kE4⟩ | with_reducible exact HKP.out _ (HX8.out.mono (by simp)) | with_reducible exact HKP.out _ (HS5.out _ HX8.out))
      (first | (go_at_call 23; refine (HFR.out _ (Only.drew [] w6)).mono ?_; rintro e w8 ⟨v8, rfl, hown8, hX8⟩; obtain ⟨ad8, cap8, rfl⟩ := own_slice_any hown8; have hX8' := (Only.drew [] w6).trans hX8; have h8 := HST.out _ hX8'; have z0 := h8.cell 0 rfl; have z1 := h8.cell 1 rfl; have z2 := h8.cell 2 rfl; have z3 := h8.cell 3 rfl; have z4 := h8.cell 4 rfl; have q0 := h8.free 0; have q1 := h8.free 1; have q2 := h8.free 2; have q3 := h8.free 3; have q4 := h8.free 4; have HX8 := Lib.hid hX8'; clear hown8 hX8 hX8' h8))
    all_goals go_wp2_with fail
    all_goals go_meet
    all_goals exact ⟨rfl, rfl, ((HST.out _ HX8.out).fill5 _ _ _ _ _).1, HS5.out _ HX8.out⟩
  case rest =>
  obtain ⟨rfl, rfl, hZ, hXZ⟩ := hcut
  have r0 := hZ.cell 0 rfl
  have r1 := hZ.cell 1 rfl
  have r2 := hZ.cell 2 rfl
  have r3 := hZ.cell 3 rfl
  have r4 := hZ.cell 4 rfl
  have HXZ := Lib.hid hXZ
  clear hZ hXZ kE0 kE1 kE2 kE3 kE4 b3 HKP HFR HST HS5 c71 c73
  go_wp2_with fail
  refine bodyPost_ret (v := .tuple #[.pointer none, editZ, .bool true]) (by simp [editZ, results, Try.results10, go_sem, r0, r1, r2, r3, r4]) rfl ?_
  clear r0 r1 r2 r3 r4
  have hbb := HBB.out
  have hbe := HBE.out
  have hlt := HT.out.lt
  have hs6 := HX56.out.size
  exact ⟨rfl, (HXE.out.past HX56.out (fun i hi => Or.inr (by simp at hi; omega))).past HXZ.out (fun i hi => Or.inr (by simp at hi; omega))⟩

set_option maxRecDepth 100000 in
set_option maxHeartbeats 4000000 in
theorem changed_drop_none {A : PA} {n : Nat} {S0 : Nat → Sl} {fs0 : List Nat} {t0 fa c0 : Int} {tb g : Nat} {ao : Option Addr} {cap : Nat} {ox : Option Tr} {of k v : Int} {w : World} (T : TrAt w tb A n S0 t0 fs0 fa) (F : Fre n S0 fs0 c0) (hc : c0 < 999998) (ht : t0 + 2 * fs0.length ≤ 1000000) (R : RepO n S0 ox) (hrow : RowP w g ao cap (prs ox)) (hgA : g ∉ A.all) (hl : (prs ox).length ≤ 1000) (hk : InK k) (hh : (valL (prs ox) k).2 = false) :
    Calls Try.prog 10 #[.pointer (some ⟨A.p, 0, none⟩), .pointer (some ⟨tb, 0, none⟩), .agg #[.int .i64 (rootOf S0 ox), .slice ao (prs ox).length cap], .agg #[.int .i64 of, .int .i64 k, .int .i64 v, .bool true]] w (ChgErr w) := by
  have hez := edit_zero
  have HT := Lib.hid T
  have HIN := Lib.hid (show Fre n S0 fs0 c0 ∧ c0 < 999998 ∧ t0 + 2 * fs0.length ≤ 1000000 ∧ RepO n S0 ox ∧ RowP w g ao cap (prs ox) ∧ g ∉ A.all ∧ (prs ox).length ≤ 1000 from ⟨F, hc, ht, R, hrow, hgA, hl⟩)
  have HK := Lib.hid hk
  have f1 : decide (k < 0) = false := by unfold InK at hk; simp; omega
  have f2 : decide (4294967295 < k) = false := by unfold InK at hk; simp; omega
  clear hk
  have HVAL := Lib.hid (fun W (o : Only [] w W) => law_value (k := k) (hrow.only o (by simp)) (show (prs ox).length ≤ 1000000 by omega))
  have HWITH := Lib.hid (fun W (o : Only A.all w W) => law_with (k := k) (u := v) (hrow.only o hgA) (show (prs ox).length ≤ 100000 by omega))
  have HWOUT := Lib.hid (fun W (o : Only A.all w W) => law_without (k := k) (hrow.only o hgA) (show (prs ox).length ≤ 100000 by omega))
  have hlf : fs0.length ≤ 4096 := by
    have h1 := nodup_length n fs0 F.nodup (fun x hx => by have := F.rng x hx; omega)
    have := T.pool.many.2
    omega
  obtain ⟨rt, hrt⟩ : ∃ u, rootOf S0 ox = u := ⟨_, rfl⟩
  obtain ⟨ln, hln⟩ : ∃ u, (prs ox).length = u := ⟨_, rfl⟩
  obtain ⟨old, hold⟩ : ∃ u, (valL (prs ox) k).1 = u := ⟨_, rfl⟩
  have hhd := hh
  obtain ⟨lf, hlfe⟩ : ∃ u, fs0.length = u := ⟨_, rfl⟩
  rw [hold, hhd, hln] at HVAL
  rw [hln] at HWITH HWOUT
  rw [hrt, hln]
  rw [hlfe] at hlf
  have HNM := Lib.hid (show rootOf S0 ox = rt ∧ (prs ox).length = ln ∧ (valL (prs ox) k).1 = old ∧ (valL (prs ox) k).2 = false ∧ fs0.length = lf from ⟨hrt, hln, hold, hhd, hlfe⟩)
  clear T F hc ht R hrow hgA hl hrt hln hold hhd hlfe
  go_enter Try.func10, Try.ntmps10
  go_upto_region 1 with fail
  refine wp_name (fun w1 => Blk w1 w.heap.size #[.int .i64 rt, .slice ao ln cap] 33 ∧ Blk w1 (w.heap.size + 1) #[.int .i64 of, .int .i64 k, .int .i64 v, .bool true] 42 ∧ Blk w1 (w.heap.size + 1 + 1) #[.int .i64 0, .int .i64 0, .bool false, .slice none 0 0, .slice none 0 0] 38 ∧ Only [] w w1) ⟨((Blk.new _ _ _).alloc _).alloc _, ?_, ?_, ((Only.alloc [] _ _).trans (Only.alloc [] _ _)).trans (Only.alloc [] _ _)⟩ ?_
  · have := (Blk.new (w.alloc (.cells #[.int .i64 rt, .slice ao ln cap] 33)) #[.int .i64 of, .int .i64 k, .int .i64 v, .bool true] 42).alloc (.cells #[.int .i64 0, .int .i64 0, .bool false, .slice none 0 0, .slice none 0 0] 38)
    simpa using this
  · have := Blk.new ((w.alloc (.cells #[.int .i64 rt, .slice ao ln cap] 33)).alloc (.cells #[.int .i64 of, .int .i64 k, .int .i64 v, .bool true] 42)) #[.int .i64 0, .int .i64 0, .bool false, .slice none 0 0, .slice none 0 0] 38
    simpa using this
  obtain ⟨b6, hb6⟩ : ∃ b, w.heap.size = b := ⟨_, rfl⟩
  obtain ⟨b7, hb7⟩ : ∃ b, w.heap.size + 1 = b := ⟨_, rfl⟩
  obtain ⟨b9, hb9⟩ : ∃ b, w.heap.size + 1 + 1 = b := ⟨_, rfl⟩
  have HBB := Lib.hid (show w.heap.size = b6 ∧ b7 = b6 + 1 ∧ b9 = b6 + 2 from ⟨hb6, by omega, by omega⟩)
  rw [hb9, hb7, hb6]
  clear hb6 hb7 hb9
  rintro w1 ⟨h6, h7, h9, hX1⟩
  have H6 := Lib.hid h6
  have H7 := Lib.hid h7
  have H9 := Lib.hid h9
  have HX1 := Lib.hid hX1
  have c61 := h6.cell 1 rfl
  have c71 := h7.cell 1 rfl
  clear h6 h7 h9 hX1
  go_wp2_with fail
  refine (HVAL.out _ HX1.out).mono ?_
  rintro e w2 ⟨rfl, hX2⟩
  have H6 := Lib.hid (H6.out.only hX2 (by simp))
  have H7 := Lib.hid (H7.out.only hX2 (by simp))
  have H9 := Lib.hid (H9.out.only hX2 (by simp))
  have HX2 := Lib.hid (HX1.out.trans hX2)
  clear hX2 c61 c71 HX1 HVAL
  go_wp2_with fail
  refine (pool_free A n S0 t0 fs0 fa _ (HT.out.plain HX2.out).pool).mono ?_
  rintro e w3 ⟨v3, rfl, hown3, hX3⟩
  obtain ⟨ad3, cap3, rfl⟩ := own_slice_any hown3
  rw [HNM.out.2.2.2.2]
  have H6 := Lib.hid (H6.out.only hX3 (by simp))
  have H7 := Lib.hid (H7.out.only hX3 (by simp))
  have H9 := Lib.hid (H9.out.only hX3 (by simp))
  have HX3 := Lib.hid (HX2.out.trans hX3)
  clear hX3 hown3 HX2
  go_upto_region 5 with fail
  refine wp_name (fun w4 => Blk w4 b6 #[.int .i64 rt, .slice ao ln cap] 33 ∧ Blk w4 b7 #[.int .i64 of, .int .i64 k, .int .i64 v, .bool true] 42 ∧ Blk w4 b9 #[.int .i64 0, .int .i64 0, .bool false, .slice none 0 0, .slice none 0 0] 38 ∧ Blk w4 w3.heap.size #[.int .i64 0, .int .i64 0, .bool false, .slice none 0 0, .slice none 0 0] 38 ∧ Only [] w w4) ⟨H6.out.alloc _, H7.out.alloc _, H9.out.alloc _, Blk.new _ _ _, HX3.out.trans (Only.alloc _ _ _)⟩ ?_
  have hb14 : b9 < w3.heap.size := H9.out.lt
  obtain ⟨bE, hbE⟩ : ∃ b, w3.heap.size = b := ⟨_, rfl⟩
  rw [hbE] at hb14 ⊢
  have HBE := Lib.hid hb14
  clear hbE hb14 H6 H7 H9 HX3 hez
  rintro w4 ⟨h6, h7, h9, hE, hX4⟩
  have H6 := Lib.hid h6
  have H7 := Lib.hid h7
  have H9 := Lib.hid h9
  have HE := Lib.hid hE
  have HX4 := Lib.hid hX4
  have c60 := h6.cell 0 rfl
  have c71 := h7.cell 1 rfl
  have c72 := h7.cell 2 rfl
  have c73 := h7.cell 3 rfl
  have HCALL := Lib.hid (drop_any (HT.out.plain hX4) HIN.out.1 HIN.out.2.1 HIN.out.2.2.1 HIN.out.2.2.2.1 HK.out)
  rw [HNM.out.1, HNM.out.2.2.1, HNM.out.2.2.2.1] at HCALL
  clear h6 h7 h9 hE hX4
  go_wp2_with fail
  refine HCALL.out.mono ?_
  rintro e w5 hER
  rcases hER with ⟨hf, _⟩ | ⟨_, hER⟩
  · cases hf
  obtain ⟨rfl, hX5e⟩ := hER
  have HXE := Lib.hid (HX4.out.trans hX5e)
  have hX5 : Only A.all w4 w5 := hX5e.mono (by simp)
  have HT5 := Lib.hid (HT.out.plain HXE.out)
  clear hX5e
  have hlt4 : ∀ b, b = b6 ∨ b = b7 ∨ b = b9 ∨ b = bE → b ∉ A.all := by
    intro b hb hm
    have h1 := HT.out.lt.2 b hm
    have h2 := HBB.out
    have h3 := HBE.out
    rcases hb with rfl | rfl | rfl | rfl <;> omega
  have H6 := Lib.hid (H6.out.only hX5 (hlt4 _ (Or.inl rfl)))
  have H7 := Lib.hid (H7.out.only hX5 (hlt4 _ (Or.inr (Or.inl rfl))))
  have H9 := Lib.hid (H9.out.only hX5 (hlt4 _ (Or.inr (Or.inr (Or.inl rfl)))))
  have hE := HE.out.only hX5 (hlt4 _ (Or.inr (Or.inr (Or.inr rfl))))
  have HE := Lib.hid hE
  have HX5 := Lib.hid ((HX4.out.mono (by simp)).trans hX5)
  have q0 := hE.free 0
  have q1 := hE.free 1
  have q2 := hE.free 2
  have q3 := hE.free 3
  have q4 := hE.free 4
  have z0 := hE.cell 0 rfl
  have z1 := hE.cell 1 rfl
  have z2 := hE.cell 2 rfl
  have z3 := hE.cell 3 rfl
  have z4 := hE.cell 4 rfl
  clear hX5 hE hlt4 HX4 HCALL c60 c71 c72 c73
  go_upto_region 8 with fail
  refine wp_name (fun w6 => Blk w6 bE #[.int .i64 0, .int .i64 0, .bool false, .slice none 0 0, .slice none 0 0] 38 ∧ Only [bE] w5 w6) (HE.out.fill5 _ _ _ _ _) ?_
  clear q0 q1 q2 q3 q4 z0 z1 z2 z3 z4 HE
  rintro w6 ⟨hE6, hX6⟩
  have HE6 := Lib.hid hE6
  have H76 := Lib.hid (H7.out.only hX6 (by have := HBB.out; have := HBE.out; simp; omega))
  have H96 := Lib.hid (H9.out.only hX6 (by have := HBB.out; have := HBE.out; simp; omega))
  have HT6 : Hid (TrAt w6 tb A n S0 t0 fs0 fa) := by
    have h1 := HT.out.lt
    have h2 := HBB.out
    have h3 := HBE.out
    exact Lib.hid (HT5.out.other hX6 (by simp; omega) (fun k hk hm => by have := h1.2 k hk; simp at hm; omega))
  have HX56 := Lib.hid hX6
  clear hE6 hX6 H6 H7 H9
  have c71 := H76.out.cell 1 rfl
  have c73 := H76.out.cell 3 rfl
  go_upto_region 13 with (go_at_call 8; refine (num_12 _ _).mono ?_; rintro e w' ⟨rfl, rfl⟩)
  have HKP : Hid (∀ W, Only [b9] w6 W → W.cell? ⟨bE, 0, none⟩ = some (.int .i64 0) ∧ W.cell? ⟨bE, 1, none⟩ = some (.int .i64 0) ∧ W.cell? ⟨bE, 2, none⟩ = some (.bool false) ∧ W.cell? ⟨bE, 3, none⟩ = some (.slice none 0 0) ∧ W.cell? ⟨bE, 4, none⟩ = some (.slice none 0 0)) := Lib.hid (fun W o => by
    have h3 := HBE.out
    have h := HE6.out.only o (by simp; omega)
    exact ⟨h.cell 0 rfl, h.cell 1 rfl, h.cell 2 rfl, h.cell 3 rfl, h.cell 4 rfl⟩)
  obtain ⟨kE0, kE1, kE2, kE3, kE4⟩ := HKP.out _ (Only.drew [b9] w6)
  have b3 : ((lf : Int) == lf) = true := by simp
  have HFR := Lib.hid (fun W (o : Only [] w6 W) => pool_free A n S0 t0 fs0 fa W (HT6.out.plain o).pool)
  rw [HNM.out.2.2.2.2] at HFR
  have HST : Hid (∀ (W : World), Only [] w6 W → Blk W b9 #[.int .i64 0, .int .i64 0, .bool false, .slice none 0 0, .slice none 0 0] 38) := Lib.hid (fun W o => H96.out.only o (by simp))
  have HS5 : Hid (∀ W, Only [] w6 W → Only [b9] w6 (((((W.setCell ⟨b9, 0, none⟩ (.int .i64 0)).setCell ⟨b9, 1, none⟩ (.int .i64 0)).setCell ⟨b9, 2, none⟩ (.bool false)).setCell ⟨b9, 3, none⟩ (.slice none 0 0)).setCell ⟨b9, 4, none⟩ (.slice none 0 0))) := Lib.hid (fun W o => (o.mono (by simp)).trans ((HST.out W o).fill5 _ _ _ _ _).2)
  go_cut [8, 10] (fun s8 s10 wz => s8 = .pointer none ∧ s10 = .bool true ∧ Blk wz b9 #[.int .i64 0, .int .i64 0, .bool false, .slice none 0 0, .slice none 0 0] 38 ∧ Only [b9] w6 wz)
  case first =>
    go_region_held3 (fun W => W.cell? ⟨bE, 0, none⟩ = some (.int .i64 0) ∧ W.cell? ⟨bE, 1, none⟩ = some (.int .i64 0) ∧ W.cell? ⟨bE, 2, none⟩ = some (.bool false) ∧ W.cell? ⟨bE, 3, none⟩ = some (.slice none 0 0) ∧ W.cell? ⟨bE, 4, none⟩ = some (.slice none 0 0))
      (first | with_reducible exact ⟨kE0, kE1, kE2, kE3, kE4⟩ | with_reducible exact HKP.out _ (HX8.out.mono (by simp)) | with_reducible exact HKP.out _ (HS5.out _ HX8.out))
      (first | (go_at_call 23; refine (HFR.out _ (Only.drew [] w6)).mono ?_; rintro e w8 ⟨v8, rfl, hown8, hX8⟩; obtain ⟨ad8, cap8, rfl⟩ := own_slice_any hown8; have hX8' := (Only.drew [] w6).trans hX8; have h8 := HST.out _ hX8'; have z0 := h8.cell 0 rfl; have z1 := h8.cell 1 rfl; have z2 := h8.cell 2 rfl; have z3 := h8.cell 3 rfl; have z4 := h8.cell 4 rfl; have q0 := h8.free 0; have q1 := h8.free 1; have q2 := h8.free 2; have q3 := h8.free 3; have q4 := h8.free 4; have HX8 := Lib.hid hX8'; clear hown8 hX8 hX8' h8))
    all_goals go_wp2_with fail
    all_goals go_meet
    all_goals exact ⟨rfl, rfl, ((HST.out _ HX8.out).fill5 _ _ _ _ _).1, HS5.out _ HX8.out⟩
  case rest =>
  obtain ⟨rfl, rfl, hZ, hXZ⟩ := hcut
  have r0 := hZ.cell 0 rfl
  have r1 := hZ.cell 1 rfl
  have r2 := hZ.cell 2 rfl
  have r3 := hZ.cell 3 rfl
  have r4 := hZ.cell 4 rfl
  have HXZ := Lib.hid hXZ
  clear hZ hXZ kE0 kE1 kE2 kE3 kE4 b3 HKP HFR HST HS5 c71 c73
  go_wp2_with fail
  refine bodyPost_ret (v := .tuple #[.pointer none, editZ, .bool true]) (by simp [editZ, results, Try.results10, go_sem, r0, r1, r2, r3, r4]) rfl ?_
  clear r0 r1 r2 r3 r4
  have hbb := HBB.out
  have hbe := HBE.out
  have hlt := HT.out.lt
  have hs6 := HX56.out.size
  exact ⟨rfl, (HXE.out.past HX56.out (fun i hi => Or.inr (by simp at hi; omega))).past HXZ.out (fun i hi => Or.inr (by simp at hi; omega))⟩

end Go.Proofs.Ytacegkjobfeiiaa

