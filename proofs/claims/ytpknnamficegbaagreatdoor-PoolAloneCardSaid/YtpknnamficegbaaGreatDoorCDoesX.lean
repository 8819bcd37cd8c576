/- The statement's does, of the kind 0: both pools answer alike. Conditions: the pair stands in memory as PairAt says, few calls have been. · The statement's does, of the kind 2: both pools answer alike. Conditions: the pair stands in memory as PairAt says, few calls have been. · The statement's does, of the kind 4: both pools answer alike. Conditions: the pair stands in memory as PairAt says, few calls have been. -/
import Derived.Deep.RegionHeld3
import Derived.Test.YtpknnamficegbaaGreatDoorCBookG
import Derived.Test.YtpknnamficegbaaGreatDoorCPairA
import Derived.Test.YtpknnamficegbaaGreatDoorCPoolK
set_option linter.unusedVariables false
set_option linter.unusedSimpArgs false
set_option linter.unusedSectionVars false
set_option linter.unnecessarySimpa false
namespace Go.Proofs.YtpknnamficegbaaGreatDoor
open Go.RowKit

set_option maxRecDepth 100000 in
set_option maxHeartbeats 4000000 in
theorem does_0 {w : World} {B : PB} {n c : Nat} {s : Ps} {hs : List Int} {kind : Int} {h a v xa xb xc xd : Int} {sec : Bool} (H : PairAt w B n s hs) (I : s.Inv n c) (hc : c + 1 ≤ 1000) (hl : hs.length ≤ 1000) (hk : ¬ kind = 1 ∧ ¬ kind = 2 ∧ ¬ kind = 3 ∧ ¬ kind = 4 ∧ ¬ kind = 5 ∧ ¬ kind = 6 ∧ ¬ kind = 7 ∧ ¬ kind = 8 ∧ ¬ kind = 10) (hr : (-9223372036854775808 ≤ h ∧ h ≤ 9223372036854775807) ∧ (-9223372036854775808 ≤ v ∧ v ≤ 9223372036854775807)) :
    Calls Tryz.prog 6 #[.pointer (some ⟨B.x, 0, none⟩), .agg #[.int .i64 kind, .int .i64 h, .int .i64 a, .int .i64 v, .int .i64 xa, .int .i64 xb, .int .i64 xc, .int .i64 xd, .bool sec]] w (DoesOut n (c + 1) (hs.length + 1) B w) := by
  have h2 := H.head.cell 2 rfl
  have hx := H.head.lt
  have HH := Lib.hid H
  have HI := Lib.hid (And.intro I (And.intro hc hl))
  obtain ⟨⟨hr1, hr2⟩, hv1, hv2⟩ := hr
  clear H I
  go_enter Tryz.func6, Tryz.ntmps6
  go_upto_region 1 with fail
  refine wp_name (fun W => Only [] w W ∧ Blk W w.heap.size #[.int .i64 kind, .int .i64 h, .int .i64 a, .int .i64 v, .int .i64 xa, .int .i64 xb, .int .i64 xc, .int .i64 xd, .bool sec] 45 ∧ Hid (W.heap.size = w.heap.size + 1)) ⟨Only.alloc _ _ _, Blk.new _ _ _, Lib.hid (by simp)⟩ ?_
  obtain ⟨ob, hob⟩ : ∃ q, w.heap.size = q := ⟨_, rfl⟩
  rw [hob]
  rintro w1 ⟨o1, hB1, hz1⟩
  have HO1 := Lib.hid (And.intro o1 (And.intro hB1 hz1))
  have HOB := Lib.hid hob
  have h2 : w1.cell? ⟨B.x, 2, none⟩ = some (.pointer (some ⟨B.R.m, 0, none⟩)) := keep_cell o1 h2
  clear o1 hB1 hz1 hob hx
  go_wp2_with fail
  refine (th_alone w1 B.R.m).mono ?_
  obtain ⟨tb, htb⟩ : ∃ q, w1.heap.size = q := ⟨_, rfl⟩
  rw [htb]
  have HTB := Lib.hid htb
  rintro e w2 ⟨rfl, hT, o2⟩
  have HD := Lib.hid (HH.out.start HO1.out.1 HTB.out.symm o2 hT)
  have HOP := Lib.hid (HO1.out.2.1.only o2 (by simp))
  have HLT : Hid (ob < tb) := Lib.hid (by have := HO1.out.2.2.out; have := HTB.out; omega)
  have HOX : Hid (∀ b, b ∈ B.bl → b ≠ ob) := Lib.hid (fun b hb e => by have := HH.out.lt b hb; have := HOB.out; omega)
  clear hT o2 htb h2
  have k1 : w2.cell? ⟨ob, 1, none⟩ = some (.int .i64 h) := HOP.out.cell 1 rfl
  obtain ⟨lv, hlv⟩ : ∃ q, B.v = q := ⟨_, rfl⟩
  have hown : w2.ownsRow 0 3 1 lv hs.length (ints hs) := hlv ▸ HD.out.own
  obtain ⟨ld, lc, rfl⟩ := own_slice_any hown
  have k3 : w2.cell? ⟨B.x, 3, none⟩ = some (.slice ld hs.length lc) := by rw [← hlv]; exact HD.out.head.cell 3 rfl
  have HLV := Lib.hid hlv
  have HOW := Lib.hid hown
  obtain ⟨m, hm⟩ : ∃ q, hs.length = q := ⟨_, rfl⟩
  rw [hm] at k3 hl
  have HM := Lib.hid hm
  clear hlv hown hm
  go_upto_region 3 with fail
  go_cut [49] from 38 to 49 (fun s49 wc' => s49 = .bool (decide (h < 0 ∧ -(m : Int) ≤ h)) ∧ w2 = wc')
  case first =>
    have hw3 : IntKind.i64.wrap (-(m : Int)) = -(m : Int) := IntWalk.i64_in _ ⟨by omega, by omega⟩
    by_cases hn0 : h < 0
    · by_cases hge : -(m : Int) ≤ h
      · skip
        go_wp2_with fail
        go_meet
        exact ⟨by simp [hn0, hge], rfl⟩
      · skip
        go_wp2_with fail
        go_meet
        exact ⟨by simp; omega, rfl⟩
    · skip
      go_wp2_with fail
      go_meet
      exact ⟨by simp; omega, rfl⟩
  case rest =>
  obtain ⟨rfl, hwc⟩ := hcut
  subst hwc
  obtain ⟨cc, hcc⟩ : ∃ q, decide (h < 0 ∧ -(m : Int) ≤ h) = q := ⟨_, rfl⟩
  rw [hcc]
  have HCC := Lib.hid hcc
  clear hcc
  go_upto_if 49 with fail
  go_cut [6] from 50 to 58 (fun s6 wc' => ∃ h2 : Int, s6 = .int .i64 h2 ∧ w2 = wc')
  case first =>
    cases cc with
    | true =>
      have hneg : h < 0 ∧ -(m : Int) ≤ h := by simpa using HCC.out
      obtain ⟨hneg, hge⟩ := hneg
      obtain ⟨lg, lcc, e1, hcells⟩ := own_at HOW.out (by have := HM.out; omega)
      cases e1
      obtain ⟨x, hxx⟩ : ∃ x, (ints hs)[(-h - 1).toNat]? = some (.int .i64 x) := by
        have hlt : (-h - 1).toNat < hs.length := by have := HM.out; omega
        exact ⟨hs[(-h - 1).toNat]'hlt, by simp [ints, List.getElem?_eq_getElem hlt]⟩
      have lx := hcells _ _ hxx
      obtain ⟨j, hj⟩ : ∃ j : Nat, -h - 1 = (j : Int) := ⟨(-h - 1).toNat, by omega⟩
      have hjm : (j : Int) < m := by omega
      have hjn : (-h - 1).toNat = j := by omega
      rw [hjn] at lx
      have hj0 : (0 : Int) ≤ (j : Int) := by omega
      have hw1 : IntKind.i64.wrap (-h) = -h := IntWalk.i64_in _ ⟨by omega, by omega⟩
      have hw2 : IntKind.i64.wrap (-h - 1) = (j : Int) := by rw [IntWalk.i64_in _ ⟨by omega, by omega⟩]; exact hj
      clear hcells hxx hjn hj
      go_wp2_with fail
      go_meet
      exact ⟨_, rfl, rfl⟩
    | false =>
      go_wp2_with fail
      go_meet
      exact ⟨_, rfl, rfl⟩
  case rest =>
    obtain ⟨hq, rfl, hwc⟩ := hcut
    subst hwc
    clear k1 k3 HOW
    have k0 : w2.cell? ⟨ob, 0, none⟩ = some (.int .i64 kind) := HOP.out.cell 0 rfl
    obtain ⟨n1, n2, n3, n4, n5, n6, n7, n8, n10⟩ := hk
    have e1 : (kind == 1) = false := by simpa using n1
    have e2 : (kind == 2) = false := by simpa using n2
    have e3 : (kind == 3) = false := by simpa using n3
    have e4 : (kind == 4) = false := by simpa using n4
    have e5 : (kind == 5) = false := by simpa using n5
    have e6 : (kind == 6) = false := by simpa using n6
    have e7 : (kind == 7) = false := by simpa using n7
    have e8 : (kind == 8) = false := by simpa using n8
    have e10 : (kind == 10) = false := by simpa using n10
    clear n1 n2 n3 n4 n5 n6 n7 n8 n10
    go_wp2_with fail
    go_ret
    exact HD.out.out (HI.out.1.more HI.out.2.1) (by have := HM.out; omega)

end Go.Proofs.YtpknnamficegbaaGreatDoor

namespace Go.Proofs.YtpknnamficegbaaGreatDoor
open Go.RowKit

set_option maxRecDepth 100000 in
set_option maxHeartbeats 4000000 in
theorem does_2 {w : World} {B : PB} {n c : Nat} {s : Ps} {hs : List Int} {h a v xa xb xc xd : Int} {sec : Bool} (H : PairAt w B n s hs) (I : s.Inv n c) (hc : c + 1 ≤ 1000) (hl : hs.length ≤ 1000) (hr : (-9223372036854775808 ≤ h ∧ h ≤ 9223372036854775807) ∧ (-9223372036854775808 ≤ v ∧ v ≤ 9223372036854775807)) :
    Calls Tryz.prog 6 #[.pointer (some ⟨B.x, 0, none⟩), .agg #[.int .i64 2, .int .i64 h, .int .i64 a, .int .i64 v, .int .i64 xa, .int .i64 xb, .int .i64 xc, .int .i64 xd, .bool sec]] w (DoesOut n (c + 1) (hs.length + 1) B w) := by
  have h2 := H.head.cell 2 rfl
  have hx := H.head.lt
  have HH := Lib.hid H
  have HI := Lib.hid (And.intro I (And.intro hc hl))
  obtain ⟨⟨hr1, hr2⟩, hv1, hv2⟩ := hr
  clear H I
  go_enter Tryz.func6, Tryz.ntmps6
  go_upto_region 1 with fail
  refine wp_name (fun W => Only [] w W ∧ Blk W w.heap.size #[.int .i64 2, .int .i64 h, .int .i64 a, .int .i64 v, .int .i64 xa, .int .i64 xb, .int .i64 xc, .int .i64 xd, .bool sec] 45 ∧ Hid (W.heap.size = w.heap.size + 1)) ⟨Only.alloc _ _ _, Blk.new _ _ _, Lib.hid (by simp)⟩ ?_
  obtain ⟨ob, hob⟩ : ∃ q, w.heap.size = q := ⟨_, rfl⟩
  rw [hob]
  rintro w1 ⟨o1, hB1, hz1⟩
  have HO1 := Lib.hid (And.intro o1 (And.intro hB1 hz1))
  have HOB := Lib.hid hob
  have h2 : w1.cell? ⟨B.x, 2, none⟩ = some (.pointer (some ⟨B.R.m, 0, none⟩)) := keep_cell o1 h2
  clear o1 hB1 hz1 hob hx
  go_wp2_with fail
  refine (th_alone w1 B.R.m).mono ?_
  obtain ⟨tb, htb⟩ : ∃ q, w1.heap.size = q := ⟨_, rfl⟩
  rw [htb]
  have HTB := Lib.hid htb
  rintro e w2 ⟨rfl, hT, o2⟩
  have HD := Lib.hid (HH.out.start HO1.out.1 HTB.out.symm o2 hT)
  have HOP := Lib.hid (HO1.out.2.1.only o2 (by simp))
  have HLT : Hid (ob < tb) := Lib.hid (by have := HO1.out.2.2.out; have := HTB.out; omega)
  have HOX : Hid (∀ b, b ∈ B.bl → b ≠ ob) := Lib.hid (fun b hb e => by have := HH.out.lt b hb; have := HOB.out; omega)
  clear hT o2 htb h2
  have k1 : w2.cell? ⟨ob, 1, none⟩ = some (.int .i64 h) := HOP.out.cell 1 rfl
  obtain ⟨lv, hlv⟩ : ∃ q, B.v = q := ⟨_, rfl⟩
  have hown : w2.ownsRow 0 3 1 lv hs.length (ints hs) := hlv ▸ HD.out.own
  obtain ⟨ld, lc, rfl⟩ := own_slice_any hown
  have k3 : w2.cell? ⟨B.x, 3, none⟩ = some (.slice ld hs.length lc) := by rw [← hlv]; exact HD.out.head.cell 3 rfl
  have HLV := Lib.hid hlv
  have HOW := Lib.hid hown
  obtain ⟨m, hm⟩ : ∃ q, hs.length = q := ⟨_, rfl⟩
  rw [hm] at k3 hl
  have HM := Lib.hid hm
  clear hlv hown hm
  go_upto_region 3 with fail
  go_cut [49] from 38 to 49 (fun s49 wc' => s49 = .bool (decide (h < 0 ∧ -(m : Int) ≤ h)) ∧ w2 = wc')
  case first =>
    have hw3 : IntKind.i64.wrap (-(m : Int)) = -(m : Int) := IntWalk.i64_in _ ⟨by omega, by omega⟩
    by_cases hn0 : h < 0
    · by_cases hge : -(m : Int) ≤ h
      · skip
        go_wp2_with fail
        go_meet
        exact ⟨by simp [hn0, hge], rfl⟩
      · skip
        go_wp2_with fail
        go_meet
        exact ⟨by simp; omega, rfl⟩
    · skip
      go_wp2_with fail
      go_meet
      exact ⟨by simp; omega, rfl⟩
  case rest =>
  obtain ⟨rfl, hwc⟩ := hcut
  subst hwc
  obtain ⟨cc, hcc⟩ : ∃ q, decide (h < 0 ∧ -(m : Int) ≤ h) = q := ⟨_, rfl⟩
  rw [hcc]
  have HCC := Lib.hid hcc
  clear hcc
  go_upto_if 49 with fail
  go_cut [6] from 50 to 58 (fun s6 wc' => ∃ h2 : Int, s6 = .int .i64 h2 ∧ w2 = wc')
  case first =>
    cases cc with
    | true =>
      have hneg : h < 0 ∧ -(m : Int) ≤ h := by simpa using HCC.out
      obtain ⟨hneg, hge⟩ := hneg
      obtain ⟨lg, lcc, e1, hcells⟩ := own_at HOW.out (by have := HM.out; omega)
      cases e1
      obtain ⟨x, hxx⟩ : ∃ x, (ints hs)[(-h - 1).toNat]? = some (.int .i64 x) := by
        have hlt : (-h - 1).toNat < hs.length := by have := HM.out; omega
        exact ⟨hs[(-h - 1).toNat]'hlt, by simp [ints, List.getElem?_eq_getElem hlt]⟩
      have lx := hcells _ _ hxx
      obtain ⟨j, hj⟩ : ∃ j : Nat, -h - 1 = (j : Int) := ⟨(-h - 1).toNat, by omega⟩
      have hjm : (j : Int) < m := by omega
      have hjn : (-h - 1).toNat = j := by omega
      rw [hjn] at lx
      have hj0 : (0 : Int) ≤ (j : Int) := by omega
      have hw1 : IntKind.i64.wrap (-h) = -h := IntWalk.i64_in _ ⟨by omega, by omega⟩
      have hw2 : IntKind.i64.wrap (-h - 1) = (j : Int) := by rw [IntWalk.i64_in _ ⟨by omega, by omega⟩]; exact hj
      clear hcells hxx hjn hj
      go_wp2_with fail
      go_meet
      exact ⟨_, rfl, rfl⟩
    | false =>
      go_wp2_with fail
      go_meet
      exact ⟨_, rfl, rfl⟩
  case rest =>
    obtain ⟨hq, rfl, hwc⟩ := hcut
    subst hwc
    clear k1 k3 HOW HLV
    have k0 : w2.cell? ⟨ob, 0, none⟩ = some (.int .i64 2) := HOP.out.cell 0 rfl
    obtain ⟨r, s2, I2, hP, hD⟩ := give_both HI.out.1 HI.out.2.1 hq
    have HPG : Hid (∀ (W : World) (sd : Ps) (kk : Nat), (DoSt w W B n s sd hs tb kk ∧ Blk W ob #[.int .i64 2, .int .i64 h, .int .i64 a, .int .i64 v, .int .i64 xa, .int .i64 xb, .int .i64 xc, .int .i64 xd, .bool sec] 45) → Calls Tryz.prog 13 #[.pointer (some ⟨B.A.p, 0, none⟩), .pointer none, .int .i64 hq] W fun e w' => e = .returned (.int .i64 r) ∧ DoSt w w' B n s2 sd hs tb kk ∧ Blk w' ob #[.int .i64 2, .int .i64 h, .int .i64 a, .int .i64 v, .int .i64 xa, .int .i64 xb, .int .i64 xc, .int .i64 xd, .bool sec] 45) := Lib.hid fun W sd kk q => (hP B.A W q.1.prog).mono fun e w' x => ⟨x.1, q.1.p x.2.1 x.2.2, q.2.only x.2.2 (fun hm => HOX.out ob (by simp [PB.bl, hm]) rfl)⟩
    have HDG : Hid (∀ (W : World) (sp : Ps), (DoSt w W B n sp s hs tb 0 ∧ Blk W ob #[.int .i64 2, .int .i64 h, .int .i64 a, .int .i64 v, .int .i64 xa, .int .i64 xb, .int .i64 xc, .int .i64 xd, .bool sec] 45) → Calls Tryz.prog 21 #[.pointer (some ⟨B.R.r, 0, none⟩), .pointer (some ⟨tb, 0, none⟩), .int .i64 hq] W fun e w' => e = .returned (.int .i64 r) ∧ DoSt w w' B n sp s2 hs tb (0 + 20) ∧ Blk w' ob #[.int .i64 2, .int .i64 h, .int .i64 a, .int .i64 v, .int .i64 xa, .int .i64 xb, .int .i64 xc, .int .i64 xd, .bool sec] 45) := Lib.hid fun W sp q => (hD B.R W tb 0 (by omega) q.1.doc).mono fun e w' x => ⟨x.1, q.1.d x.2.1 x.2.2, DoSt.keep_blk q.2 HLT.out (fun hm => HOX.out ob (by simp [PB.bl, hm]) rfl) x.2.2⟩
    have HK : Hid (∀ (W : World) (sp sd : Ps) (kk : Nat), (DoSt w W B n sp sd hs tb kk ∧ Blk W ob #[.int .i64 2, .int .i64 h, .int .i64 a, .int .i64 v, .int .i64 xa, .int .i64 xb, .int .i64 xc, .int .i64 xd, .bool sec] 45) → W.cell? ⟨B.x, 0, none⟩ = some (.pointer (some ⟨B.A.p, 0, none⟩)) ∧ W.cell? ⟨B.x, 1, none⟩ = some (.pointer (some ⟨B.R.r, 0, none⟩))) := Lib.hid fun W sp sd kk q => ⟨q.1.head.cell 0 rfl, q.1.head.cell 1 rfl⟩
    have HI2 := Lib.hid I2
    clear hP hD I2
    have hst : DoSt w w2 B n s s hs tb 0 ∧ Blk w2 ob #[.int .i64 2, .int .i64 h, .int .i64 a, .int .i64 v, .int .i64 xa, .int .i64 xb, .int .i64 xc, .int .i64 xd, .bool sec] 45 := ⟨HD.out, HOP.out⟩
    obtain ⟨z0, z1⟩ := HK.out _ _ _ _ hst
    go_upto_region 13 with fail
    have hst := And.intro (hst.1.plain (Only.drew [] w2)) (hst.2.only (Only.drew [] w2) (by simp))
    go_region_held3 (fun W => W.cell? ⟨B.x, 0, none⟩ = some (.pointer (some ⟨B.A.p, 0, none⟩)) ∧ W.cell? ⟨B.x, 1, none⟩ = some (.pointer (some ⟨B.R.r, 0, none⟩))) (first | with_reducible exact HK.out _ _ _ _ (by assumption)) (first | (go_at_call 13; refine (HPG.out _ _ _ (by assumption)).mono ?_; rintro e w3 ⟨rfl, hst⟩) | (go_at_call 21; refine (HDG.out _ _ (by assumption)).mono ?_; rintro e w4 ⟨rfl, hst⟩) | (go_at_call 10; refine (num_any _ _).mono ?_; rintro e w' ⟨rfl, rfl⟩))
    all_goals go_wp2_with fail
    all_goals go_ret
    all_goals exact hst.1.out HI2.out (by have := HM.out; omega)

end Go.Proofs.YtpknnamficegbaaGreatDoor

namespace Go.Proofs.YtpknnamficegbaaGreatDoor
open Go.RowKit

set_option maxRecDepth 100000 in
set_option maxHeartbeats 4000000 in
theorem does_4 {w : World} {B : PB} {n c : Nat} {s : Ps} {hs : List Int} {h a v xa xb xc xd : Int} {sec : Bool} (H : PairAt w B n s hs) (I : s.Inv n c) (hc : c + 1 ≤ 1000) (hl : hs.length ≤ 1000) (hr : (-9223372036854775808 ≤ h ∧ h ≤ 9223372036854775807) ∧ (-9223372036854775808 ≤ v ∧ v ≤ 9223372036854775807)) :
    Calls Tryz.prog 6 #[.pointer (some ⟨B.x, 0, none⟩), .agg #[.int .i64 4, .int .i64 h, .int .i64 a, .int .i64 v, .int .i64 xa, .int .i64 xb, .int .i64 xc, .int .i64 xd, .bool sec]] w (DoesOut n (c + 1) (hs.length + 1) B w) := by
  have h2 := H.head.cell 2 rfl
  have hx := H.head.lt
  have HH := Lib.hid H
  have HI := Lib.hid (And.intro I (And.intro hc hl))
  obtain ⟨⟨hr1, hr2⟩, hv1, hv2⟩ := hr
  clear H I
  go_enter Tryz.func6, Tryz.ntmps6
  go_upto_region 1 with fail
  refine wp_name (fun W => Only [] w W ∧ Blk W w.heap.size #[.int .i64 4, .int .i64 h, .int .i64 a, .int .i64 v, .int .i64 xa, .int .i64 xb, .int .i64 xc, .int .i64 xd, .bool sec] 45 ∧ Hid (W.heap.size = w.heap.size + 1)) ⟨Only.alloc _ _ _, Blk.new _ _ _, Lib.hid (by simp)⟩ ?_
  obtain ⟨ob, hob⟩ : ∃ q, w.heap.size = q := ⟨_, rfl⟩
  rw [hob]
  rintro w1 ⟨o1, hB1, hz1⟩
  have HO1 := Lib.hid (And.intro o1 (And.intro hB1 hz1))
  have HOB := Lib.hid hob
  have h2 : w1.cell? ⟨B.x, 2, none⟩ = some (.pointer (some ⟨B.R.m, 0, none⟩)) := keep_cell o1 h2
  clear o1 hB1 hz1 hob hx
  go_wp2_with fail
  refine (th_alone w1 B.R.m).mono ?_
  obtain ⟨tb, htb⟩ : ∃ q, w1.heap.size = q := ⟨_, rfl⟩
  rw [htb]
  have HTB := Lib.hid htb
  rintro e w2 ⟨rfl, hT, o2⟩
  have HD := Lib.hid (HH.out.start HO1.out.1 HTB.out.symm o2 hT)
  have HOP := Lib.hid (HO1.out.2.1.only o2 (by simp))
  have HLT : Hid (ob < tb) := Lib.hid (by have := HO1.out.2.2.out; have := HTB.out; omega)
  have HOX : Hid (∀ b, b ∈ B.bl → b ≠ ob) := Lib.hid (fun b hb e => by have := HH.out.lt b hb; have := HOB.out; omega)
  clear hT o2 htb h2
  have k1 : w2.cell? ⟨ob, 1, none⟩ = some (.int .i64 h) := HOP.out.cell 1 rfl
  obtain ⟨lv, hlv⟩ : ∃ q, B.v = q := ⟨_, rfl⟩
  have hown : w2.ownsRow 0 3 1 lv hs.length (ints hs) := hlv ▸ HD.out.own
  obtain ⟨ld, lc, rfl⟩ := own_slice_any hown
  have k3 : w2.cell? ⟨B.x, 3, none⟩ = some (.slice ld hs.length lc) := by rw [← hlv]; exact HD.out.head.cell 3 rfl
  have HLV := Lib.hid hlv
  have HOW := Lib.hid hown
  obtain ⟨m, hm⟩ : ∃ q, hs.length = q := ⟨_, rfl⟩
  rw [hm] at k3 hl
  have HM := Lib.hid hm
  clear hlv hown hm
  go_upto_region 3 with fail
  go_cut [49] from 38 to 49 (fun s49 wc' => s49 = .bool (decide (h < 0 ∧ -(m : Int) ≤ h)) ∧ w2 = wc')
  case first =>
    have hw3 : IntKind.i64.wrap (-(m : Int)) = -(m : Int) := IntWalk.i64_in _ ⟨by omega, by omega⟩
    by_cases hn0 : h < 0
    · by_cases hge : -(m : Int) ≤ h
      · skip
        go_wp2_with fail
        go_meet
        exact ⟨by simp [hn0, hge], rfl⟩
      · skip
        go_wp2_with fail
        go_meet
        exact ⟨by simp; omega, rfl⟩
    · skip
      go_wp2_with fail
      go_meet
      exact ⟨by simp; omega, rfl⟩
  case rest =>
  obtain ⟨rfl, hwc⟩ := hcut
  subst hwc
  obtain ⟨cc, hcc⟩ : ∃ q, decide (h < 0 ∧ -(m : Int) ≤ h) = q := ⟨_, rfl⟩
  rw [hcc]
  have HCC := Lib.hid hcc
  clear hcc
  go_upto_if 49 with fail
  go_cut [6] from 50 to 58 (fun s6 wc' => ∃ h2 : Int, s6 = .int .i64 h2 ∧ w2 = wc')
  case first =>
    cases cc with
    | true =>
      have hneg : h < 0 ∧ -(m : Int) ≤ h := by simpa using HCC.out
      obtain ⟨hneg, hge⟩ := hneg
      obtain ⟨lg, lcc, e1, hcells⟩ := own_at HOW.out (by have := HM.out; omega)
      cases e1
      obtain ⟨x, hxx⟩ : ∃ x, (ints hs)[(-h - 1).toNat]? = some (.int .i64 x) := by
        have hlt : (-h - 1).toNat < hs.length := by have := HM.out; omega
        exact ⟨hs[(-h - 1).toNat]'hlt, by simp [ints, List.getElem?_eq_getElem hlt]⟩
      have lx := hcells _ _ hxx
      obtain ⟨j, hj⟩ : ∃ j : Nat, -h - 1 = (j : Int) := ⟨(-h - 1).toNat, by omega⟩
      have hjm : (j : Int) < m := by omega
      have hjn : (-h - 1).toNat = j := by omega
      rw [hjn] at lx
      have hj0 : (0 : Int) ≤ (j : Int) := by omega
      have hw1 : IntKind.i64.wrap (-h) = -h := IntWalk.i64_in _ ⟨by omega, by omega⟩
      have hw2 : IntKind.i64.wrap (-h - 1) = (j : Int) := by rw [IntWalk.i64_in _ ⟨by omega, by omega⟩]; exact hj
      clear hcells hxx hjn hj
      go_wp2_with fail
      go_meet
      exact ⟨_, rfl, rfl⟩
    | false =>
      go_wp2_with fail
      go_meet
      exact ⟨_, rfl, rfl⟩
  case rest =>
    obtain ⟨hq, rfl, hwc⟩ := hcut
    subst hwc
    clear k1 k3 HOW
    have k0 : w2.cell? ⟨ob, 0, none⟩ = some (.int .i64 4) := HOP.out.cell 0 rfl
    obtain ⟨r, f, s2, I2, hP, hD⟩ := mark_both HI.out.1 HI.out.2.1 hq
    have HPG : Hid (∀ (W : World) (sd : Ps) (kk : Nat), (DoSt w W B n s sd hs tb kk ∧ Blk W ob #[.int .i64 4, .int .i64 h, .int .i64 a, .int .i64 v, .int .i64 xa, .int .i64 xb, .int .i64 xc, .int .i64 xd, .bool sec] 45) → Calls Tryz.prog 23 #[.pointer (some ⟨B.A.p, 0, none⟩), .pointer none, .int .i64 hq] W fun e w' => e = .returned (.tuple #[.int .i64 r, .int .i64 f]) ∧ DoSt w w' B n s2 sd hs tb kk ∧ Blk w' ob #[.int .i64 4, .int .i64 h, .int .i64 a, .int .i64 v, .int .i64 xa, .int .i64 xb, .int .i64 xc, .int .i64 xd, .bool sec] 45) := Lib.hid fun W sd kk q => (hP B.A W q.1.prog).mono fun e w' x => ⟨x.1, q.1.p x.2.1 x.2.2, q.2.only x.2.2 (fun hm => HOX.out ob (by simp [PB.bl, hm]) rfl)⟩
    have HDG : Hid (∀ (W : World) (sp : Ps), (DoSt w W B n sp s hs tb 0 ∧ Blk W ob #[.int .i64 4, .int .i64 h, .int .i64 a, .int .i64 v, .int .i64 xa, .int .i64 xb, .int .i64 xc, .int .i64 xd, .bool sec] 45) → Calls Tryz.prog 24 #[.pointer (some ⟨B.R.r, 0, none⟩), .pointer (some ⟨tb, 0, none⟩), .int .i64 hq] W fun e w' => e = .returned (.tuple #[.int .i64 r, .int .i64 f]) ∧ DoSt w w' B n sp s2 hs tb (0 + 20) ∧ Blk w' ob #[.int .i64 4, .int .i64 h, .int .i64 a, .int .i64 v, .int .i64 xa, .int .i64 xb, .int .i64 xc, .int .i64 xd, .bool sec] 45) := Lib.hid fun W sp q => (hD B.R W tb 0 (by omega) q.1.doc).mono fun e w' x => ⟨x.1, q.1.d x.2.1 x.2.2, DoSt.keep_blk q.2 HLT.out (fun hm => HOX.out ob (by simp [PB.bl, hm]) rfl) x.2.2⟩
    have HK : Hid (∀ (W : World) (sp sd : Ps) (kk : Nat), (DoSt w W B n sp sd hs tb kk ∧ Blk W ob #[.int .i64 4, .int .i64 h, .int .i64 a, .int .i64 v, .int .i64 xa, .int .i64 xb, .int .i64 xc, .int .i64 xd, .bool sec] 45) → W.cell? ⟨B.x, 0, none⟩ = some (.pointer (some ⟨B.A.p, 0, none⟩)) ∧ W.cell? ⟨B.x, 1, none⟩ = some (.pointer (some ⟨B.R.r, 0, none⟩))) := Lib.hid fun W sp sd kk q => ⟨q.1.head.cell 0 rfl, q.1.head.cell 1 rfl⟩
    have HI2 := Lib.hid I2
    clear hP hD I2
    have hst : DoSt w w2 B n s s hs tb 0 ∧ Blk w2 ob #[.int .i64 4, .int .i64 h, .int .i64 a, .int .i64 v, .int .i64 xa, .int .i64 xb, .int .i64 xc, .int .i64 xd, .bool sec] 45 := ⟨HD.out, HOP.out⟩
    obtain ⟨z0, z1⟩ := HK.out _ _ _ _ hst
    go_wp2_with fail
    refine (HPG.out _ _ _ hst).mono ?_
    rintro e w3 ⟨rfl, hst⟩
    clear z0 z1
    obtain ⟨z0, z1⟩ := HK.out _ _ _ _ hst
    go_wp2_with fail
    refine (HDG.out _ _ hst).mono ?_
    rintro e w4 ⟨rfl, hst⟩
    clear z0 z1
    go_wp2_with (go_at_call 10; refine (num_any _ _).mono ?_; rintro e w' ⟨rfl, rfl⟩)
    go_ret
    exact hst.1.out HI2.out (by have := HM.out; omega)

end Go.Proofs.YtpknnamficegbaaGreatDoor

