/- The statement's own first look at the chapter's examples (known): it returns true and writes nothing that was there. No condition. -/
import Derived.Test.YtacegkjobfeiiaaCTrieEj
set_option linter.unusedVariables false
set_option linter.unusedSimpArgs false
set_option linter.unusedSectionVars false
set_option linter.unnecessarySimpa false
namespace Go.Proofs.Ytacegkjobfeiiaa
open Go.RowKit

theorem Blk.past {A : PA} {w w' : World} {b : Nat} {vs : Array Value} {t : TypeId} (h : Blk w b vs t) (o : Only A.all w w') (hA : ∀ k, k ∈ A.all → k < b) : Blk w' b vs t := h.only o (fun hm => by have := hA b hm; omega)

set_option maxRecDepth 100000 in
set_option maxHeartbeats 8000000 in
theorem tr_known (w : World) : Calls Try.prog 6 #[] w fun e w' => e = .returned (.bool true) ∧ Only [] w w' := by
  go_enter Try.func6, Try.ntmps6
  go_wp2_with fail
  refine (pool_new 9 (by omega) (by omega) w).mono ?_
  rintro e w1 ⟨A, rfl, hP, hO, hA⟩
  rw [show List.range' 1 9 = [1, 2, 3, 4, 5, 6, 7, 8, 9] from rfl] at hP
  have HA := Lib.hid hA
  have HO := Lib.hid hO
  have HP := Lib.hid hP
  clear hA hO hP
  go_wp2_with (go_at_call 8; refine (num_12 _ _).mono ?_; rintro e w' ⟨rfl, rfl⟩)
  refine (trie_new HP.out).mono ?_
  rintro e w2 ⟨rfl, hT, hX2⟩
  obtain ⟨tb, htb⟩ : ∃ b, w1.heap.size = b := ⟨_, rfl⟩
  rw [htb] at hT ⊢
  have HT := Lib.hid hT
  have HO2 := Lib.hid ((HO.out.trans hX2).mono (by simp) : Only A.all w w2)
  clear hT hX2 htb HO HP
  go_wp2_with fail
  refine (k_put1 HT.out).mono ?_
  rintro e w3 ⟨S1, ga1, ma1, gc1, mc1, rfl, hK1, hg1, hg0, hX3⟩
  unfold edV
  have HK1 := Lib.hid hK1
  have HG1 := Lib.hid (And.intro hg1 hg0)
  have HO3 := Lib.hid (HO2.out.trans hX3)
  clear hK1 hg1 hg0 hX3 HT HO2
  go_upto_region 8 with fail
  refine wp_name (fun w4 => Blk w4 w3.heap.size #[.int .i64 (wd 1 1), .int .i64 0, .bool false, .slice ga1 0 gc1, .slice ma1 1 mc1] 38 ∧ Only [] w3 w4) ⟨Blk.new _ _ _, Only.alloc _ _ _⟩ ?_
  have HL4 : Hid (∀ k, k ∈ A.all → k < w3.heap.size) := Lib.hid HK1.out.tr.lt.2
  generalize w3.heap.size = b4 at HL4 ⊢
  rintro w4 ⟨hb4, hX4⟩
  have HB4 := Lib.hid hb4
  have c40 := hb4.cell 0 rfl
  have HK1 := Lib.hid (HK1.out.plain hX4)
  have HO4 := Lib.hid (HO3.out.trans (hX4.mono (by simp)))
  clear hb4 hX4 HO3
  go_wp2_with fail
  refine (k_put2 HK1.out HG1.out.1 HG1.out.2).mono ?_
  rintro e w5 ⟨S2, ga2, ma2, gc2, mc2, rfl, hK2, hg1, _, hX5⟩
  unfold edV
  have HK2 := Lib.hid hK2
  have HG2 := Lib.hid hg1
  have HO5 := Lib.hid (HO4.out.trans hX5)
  have HB4 := Lib.hid (HB4.out.past hX5 HL4.out)
  clear hK2 hg1 hX5 HO4 HK1 HG1 c40
  go_upto_region 9 with fail
  refine wp_name (fun w6 => Blk w6 w5.heap.size #[.int .i64 (wd 3 1), .int .i64 0, .bool false, .slice ga2 0 gc2, .slice ma2 2 mc2] 38 ∧ Only [] w5 w6) ⟨Blk.new _ _ _, Only.alloc _ _ _⟩ ?_
  have HL6 : Hid (∀ k, k ∈ A.all → k < w5.heap.size) := Lib.hid HK2.out.tr.lt.2
  generalize w5.heap.size = b6 at HL6 ⊢
  rintro w6 ⟨hb6, hX6⟩
  have HB6 := Lib.hid hb6
  have c60 := hb6.cell 0 rfl
  have HB4 := Lib.hid (HB4.out.only hX6 (by simp))
  have HK2 := Lib.hid (HK2.out.plain hX6)
  have HO6 := Lib.hid (HO5.out.trans (hX6.mono (by simp)))
  clear hb6 hX6 HO5
  go_wp2_with fail
  refine (k_put3 HK2.out HG2.out).mono ?_
  rintro e w7 ⟨S3, ga3, ma3, gc3, mc3, rfl, hK3, hR2, hg3, hrd, hgb, hX7⟩
  unfold edV
  have HK3 := Lib.hid hK3
  have HR2 := Lib.hid (And.intro hR2 hg3)
  have HRD := Lib.hid hrd
  have HGB : Hid (∀ b, (Value.slice ga3 1 gc3).ownBlock = some b → ∀ k, k ∈ A.all → k < b) := Lib.hid (fun b hb k hk => by have h1 := hgb b hb; have h2 := HK2.out.tr.lt.2 k hk; omega)
  have HO7 := Lib.hid (HO6.out.trans hX7)
  have HB4 := Lib.hid (HB4.out.past hX7 HL4.out)
  have HB6 := Lib.hid (HB6.out.past hX7 HL6.out)
  obtain ⟨cr, hcr⟩ : ∃ u, hnd S3 kx3 = u := ⟨_, rfl⟩
  rw [hcr]
  have HCR := Lib.hid hcr
  clear hK3 hR2 hg3 hrd hgb hX7 HO6 HK2 HG2 c60 hcr
  go_upto_region 10 with fail
  refine wp_name (fun w8 => Blk w8 w7.heap.size #[.int .i64 cr, .int .i64 0, .bool false, .slice ga3 1 gc3, .slice ma3 3 mc3] 38 ∧ Only [] w7 w8) ⟨Blk.new _ _ _, Only.alloc _ _ _⟩ ?_
  have HL8 : Hid (∀ k, k ∈ A.all → k < w7.heap.size) := Lib.hid HK3.out.tr.lt.2
  generalize w7.heap.size = b8 at HL8 ⊢
  rintro w8 ⟨hb8, hX8⟩
  have HB8 := Lib.hid hb8
  have HB4 := Lib.hid (HB4.out.only hX8 (by simp))
  have HB6 := Lib.hid (HB6.out.only hX8 (by simp))
  have HK3 := Lib.hid (HK3.out.plain hX8)
  have HRD := Lib.hid (HRD.out.only hX8 (by simp))
  have HO8 := Lib.hid (HO7.out.trans (hX8.mono (by simp)))
  clear hb8 hX8 HO7
  go_wp2_with fail
  refine (word_pack 1 1 _ (by omega) (by omega) (by omega) (by omega)).mono ?_
  rintro e w' ⟨rfl, rfl⟩
  go_wp2_with fail
  refine (word_pack 2 1 _ (by omega) (by omega) (by omega) (by omega)).mono ?_
  rintro e w' ⟨rfl, rfl⟩
  go_wp2_with fail
  refine (word_pack 3 1 _ (by omega) (by omega) (by omega) (by omega)).mono ?_
  rintro e w' ⟨rfl, rfl⟩
  have c60 := HB6.out.cell 0 rfl
  go_wp2_with fail
  refine (k_read HK3.out HR2.out.1 HR2.out.2).mono ?_
  rintro e w9 ⟨rfl, hX9⟩
  have HB4 := Lib.hid (HB4.out.only hX9 (by simp))
  have HB6 := Lib.hid (HB6.out.only hX9 (by simp))
  have HB8 := Lib.hid (HB8.out.only hX9 (by simp))
  have HK3 := Lib.hid (HK3.out.plain hX9)
  have HRD := Lib.hid (HRD.out.only hX9 (by simp))
  have HO9 := Lib.hid (HO8.out.trans (hX9.mono (by simp)))
  clear hX9 HO8 c60
  go_upto_region 14 with fail
  refine wp_name (fun wa => Blk wa w9.heap.size #[.int .i64 258, .int .i64 (wd 1 1), .int .i64 (wd 2 1), .int .i64 2] 73 ∧ Only [] w9 wa) ⟨Blk.new _ _ _, Only.alloc _ _ _⟩ ?_
  generalize w9.heap.size = b16
  rintro wa ⟨hb16, hXa⟩
  have hB4 := HB4.out.only hXa (by simp)
  have hB6 := HB6.out.only hXa (by simp)
  have hB8 := HB8.out.only hXa (by simp)
  have HB8 := Lib.hid hB8
  have HK3 := Lib.hid (HK3.out.plain hXa)
  have HRD := Lib.hid (HRD.out.only hXa (by simp))
  have HOa := Lib.hid (HO9.out.trans (hXa.mono (by simp)))
  have c40 := hB4.cell 0 rfl
  have c60 := hB6.cell 0 rfl
  have c83 := hB8.cell 3 rfl
  have n0 := hb16.cell 0 rfl
  have n1 := hb16.cell 1 rfl
  have n2 := hb16.cell 2 rfl
  have n3 := hb16.cell 3 rfl
  have c84 := hB8.cell 4 rfl
  have c84a : ∀ o, (wa.alloc o).cell? ⟨b8, 4, none⟩ = some (.slice ma3 3 mc3) := fun o => (hB8.alloc o).cell 4 rfl
  clear hXa hB4 hB6 hB8 hb16 HB4 HB6 HO9
  go_upto_region 16 with (first | (go_at_call 8; refine (num_12 _ _).mono ?_; rintro e w' ⟨rfl, rfl⟩) | (go_at_call 26; refine (runs_ints _ _ [wd 3 1] _ (HRD.out.only (Only.alloc [] _ _) (by simp)) ⟨_, 1, rfl, Or.inr ⟨_, 0, rfl, by simp, fun i hi => by simp at hi; subst hi; simpa using (Blk.new wa #[.int .i64 (wd 3 1)] 3).cell 0 rfl⟩⟩ (by decide)).mono ?_; rintro e wb ⟨rfl, hXb⟩; have c84b := (HB8.out.only ((Only.alloc [] wa _).trans hXb) (by simp)).cell 4 rfl))
  have hXb2 := (Only.alloc [] wa _).trans hXb
  have hB8 := HB8.out.only hXb2 (by simp)
  have HB8 := Lib.hid hB8
  have HK3 := Lib.hid (HK3.out.plain hXb2)
  have HOb := Lib.hid (HOa.out.trans (hXb2.mono (by simp)))
  have c80 := hB8.cell 0 rfl
  clear hXb2 hXb c84b hB8 HOa HRD c40 c60 c83 n0 n1 n2 n3 c84 c84a
  go_wp2_with fail
  have HRK := rank_some (k := 7) HK3.out.tr HK3.out.rep.1 HK3.out.rep.2 (by omega)
  rw [k_rank, HCR.out] at HRK
  refine HRK.mono ?_
  rintro e wc ⟨rfl, hXc⟩
  have hB8 := HB8.out.only hXc (by simp)
  have HB8 := Lib.hid hB8
  have HK3 := Lib.hid (HK3.out.plain hXc)
  have HOc := Lib.hid (HOb.out.trans (hXc.mono (by simp)))
  have c80 := hB8.cell 0 rfl
  clear HRK hXc hB8 HOb
  go_wp2_with fail
  have HSL := select_some (i := 1) HK3.out.tr HK3.out.rep.1 HK3.out.rep.2 (by decide)
  rw [k_sel, HCR.out] at HSL
  refine HSL.mono ?_
  rintro e wd1 ⟨rfl, hXc⟩
  have HB8 := Lib.hid (HB8.out.only hXc (by simp))
  have HK3 := Lib.hid (HK3.out.plain hXc)
  have HOd := Lib.hid (HOc.out.trans (hXc.mono (by simp)))
  clear HSL hXc HOc c80
  go_upto_region 18 with fail
  refine wp_name (fun we => Blk we wd1.heap.size #[.int .i64 6, .int .i64 60] 56 ∧ Only [] wd1 we) ⟨Blk.new _ _ _, Only.alloc _ _ _⟩ ?_
  have HL20 : Hid (∀ k, k ∈ A.all → k < wd1.heap.size) := Lib.hid HK3.out.tr.lt.2
  generalize wd1.heap.size = b20 at HL20 ⊢
  rintro we ⟨hb20, hXe⟩
  have HB20 := Lib.hid hb20
  have hB8 := HB8.out.only hXe (by simp)
  have HB8 := Lib.hid hB8
  have HK3 := Lib.hid (HK3.out.plain hXe)
  have HOe := Lib.hid (HOd.out.trans (hXe.mono (by simp)))
  have c80 := hB8.cell 0 rfl
  clear hb20 hXe hB8 HOd
  go_wp2_with fail
  have HNX := next_some (k := 5) HK3.out.tr HK3.out.rep.1 HK3.out.rep.2 (by omega)
  rw [k_next5, HCR.out] at HNX
  refine HNX.mono ?_
  rintro e wf ⟨rfl, hXc⟩
  have HB8 := Lib.hid (HB8.out.only hXc (by simp))
  have HB20 := Lib.hid (HB20.out.only hXc (by simp))
  have HK3 := Lib.hid (HK3.out.plain hXc)
  have HOf := Lib.hid (HOe.out.trans (hXc.mono (by simp)))
  clear HNX hXc HOe c80
  go_upto_region 19 with fail
  refine wp_name (fun wg => Blk wg wf.heap.size #[.int .i64 6, .int .i64 60] 56 ∧ Only [] wf wg) ⟨Blk.new _ _ _, Only.alloc _ _ _⟩ ?_
  have HL22 : Hid (∀ k, k ∈ A.all → k < wf.heap.size) := Lib.hid HK3.out.tr.lt.2
  generalize wf.heap.size = b22 at HL22 ⊢
  rintro wg ⟨hb22, hXe⟩
  have HB22 := Lib.hid hb22
  have hB8 := HB8.out.only hXe (by simp)
  have HB8 := Lib.hid hB8
  have HB20 := Lib.hid (HB20.out.only hXe (by simp))
  have HK3 := Lib.hid (HK3.out.plain hXe)
  have HOg := Lib.hid (HOf.out.trans (hXe.mono (by simp)))
  have c80 := hB8.cell 0 rfl
  clear hb22 hXe hB8 HOf
  go_wp2_with fail
  have HNX := next_some (k := 7) HK3.out.tr HK3.out.rep.1 HK3.out.rep.2 (by omega)
  rw [k_next7, HCR.out] at HNX
  refine HNX.mono ?_
  rintro e wh ⟨rfl, hXc⟩
  have HB8 := Lib.hid (HB8.out.only hXc (by simp))
  have HB20 := Lib.hid (HB20.out.only hXc (by simp))
  have HB22 := Lib.hid (HB22.out.only hXc (by simp))
  have HK3 := Lib.hid (HK3.out.plain hXc)
  have HOh := Lib.hid (HOg.out.trans (hXc.mono (by simp)))
  clear HNX hXc HOg c80
  go_upto_region 20 with fail
  refine wp_name (fun wi => Only [] wh wi) (Only.alloc _ _ _) ?_
  generalize wh.heap.size = b24
  rintro wi hXe
  have hB8 := HB8.out.only hXe (by simp)
  have HB20 := Lib.hid (HB20.out.only hXe (by simp))
  have HB22 := Lib.hid (HB22.out.only hXe (by simp))
  have HK3 := Lib.hid (HK3.out.plain hXe)
  have HOi := Lib.hid (HOh.out.trans (hXe.mono (by simp)))
  have HLI : Hid (∀ k, k ∈ A.all → k < b8) := HL8
  have c80 := hB8.cell 0 rfl
  have HN : Hid (b20 ∉ A.all ∧ b22 ∉ A.all) := by
    exact Lib.hid ⟨fun hm => by have := HL20.out _ hm; omega, fun hm => by have := HL22.out _ hm; omega⟩
  clear hXe hB8 HOh
  go_wp2_with fail
  have HDR := k_drop HK3.out
  rw [HCR.out] at HDR
  refine HDR.mono ?_
  rintro e wj ⟨r9, ga9, ma9, gc9, mc9, rfl, hXj⟩
  unfold edV
  have hB20 := HB20.out.only hXj HN.out.1
  have hB22 := HB22.out.only hXj HN.out.2
  have HB20 := Lib.hid hB20
  have HB22 := Lib.hid hB22
  have HOj := Lib.hid (HOi.out.trans hXj)
  clear hXj HDR HOi c80 hB20 hB22
  go_upto_region 21 with fail
  refine wp_name (fun wk => Blk wk wj.heap.size #[.int .i64 r9, .int .i64 60, .bool true, .slice ga9 3 gc9, .slice ma9 1 mc9] 38 ∧ Only [] wj wk) ⟨Blk.new _ _ _, Only.alloc _ _ _⟩ ?_
  generalize wj.heap.size = b26
  rintro wk ⟨hb26, hXe⟩
  have hB20 := HB20.out.only hXe (by simp)
  have hB22 := HB22.out.only hXe (by simp)
  have HOk := Lib.hid (HOj.out.trans (hXe.mono (by simp)))
  have p0 := hB20.cell 0 rfl
  have p1 := hB20.cell 1 rfl
  have q0 := hB22.cell 0 rfl
  have q1 := hB22.cell 1 rfl
  have e1 := hb26.cell 1 rfl
  have e2 := hb26.cell 2 rfl
  have e3 := hb26.cell 3 rfl
  have e4 := hb26.cell 4 rfl
  clear hb26 hXe hB20 hB22 HOj
  go_wp2_with (go_at_call 8; refine (num_12 _ _).mono ?_; rintro e w' ⟨rfl, rfl⟩)
  go_ret
  exact ⟨rfl, (Only.refl [] w).past HOk.out (fun i hi => Or.inr (HA.out i hi))⟩

end Go.Proofs.Ytacegkjobfeiiaa

