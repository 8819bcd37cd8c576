/- The book: all that is due is written and laid on; all is as it was noted. Condition: the book stands in memory as BookIn says. -/
import Derived.Test.YtpknnamficegbaaGreatDoorCBookX
import Derived.Test.YtpknnamficegbaaGreatDoorCBookH
import Derived.Test.YtpknnamficegbaaGreatDoorCBookI
import Derived.Test.YtpknnamficegbaaGreatDoorCBookN
import Derived.Test.YtpknnamficegbaaGreatDoorCBookY
set_option linter.unusedVariables false
set_option linter.unusedSimpArgs false
set_option linter.unusedSectionVars false
set_option linter.unnecessarySimpa false
namespace Go.Proofs.YtpknnamficegbaaGreatDoor
open Go.RowKit

theorem bookL_perm (base kb : Nat) (turn deep : Int) (a b : Hv) (kI kS : Kn) : (bookL base kb turn deep a b kI kS).Perm (hdrPc kb turn deep a b :: (kin base 64 58 7 b kS ++ kin base 3 29 1 a kI)) := List.perm_append_comm.cons _

theorem book_hdr {base kb : Nat} {turn deep : Int} {a b : Hv} {kI kS : Kn} {w : World} (h : Star base (bookL base kb turn deep a b kI kS) w) : RowV w kb 103 (hdrF turn deep a b) 41 := h.get 0 rfl

theorem book_mem (base kb : Nat) (turn deep : Int) (a b : Hv) (kI kS : Kn) : kb ∈ bls (bookL base kb turn deep a b kI kS) := mem_bls.2 ⟨hdrPc kb turn deep a b, List.mem_cons_self, by simp [hdrPc]⟩

/-- Behind marks. -/
def MarksOut (base kb : Nat) (turn deep : Int) (si ss : Nat) (l : List Pc) (w : World) (e : Ending) (w' : World) : Prop :=
  e = .returned (.tuple #[]) ∧ ∃ a b kI kS, Star base (bookL base kb turn deep a b kI kS) w' ∧ Goes l (bookL base kb turn deep a b kI kS) w w' ∧ kI.Good a.s ∧ kS.Good b.s ∧ a.s = si ∧ b.s = ss

/-- Behind grows. -/
def GrowsOut (base kb : Nat) (turn deep : Int) (si ss : Nat) (l : List Pc) (w : World) (e : Ending) (w' : World) : Prop :=
  e = .returned (.tuple #[]) ∧ ∃ a b kI kS, Star base (bookL base kb turn deep a b kI kS) w' ∧ Goes l (bookL base kb turn deep a b kI kS) w w' ∧ kI.Good a.s ∧ kS.Good b.s ∧ a.s = si ∧ b.s = ss ∧ kI.fs = [] ∧ kS.fs = []

section
variable {base kb : Nat} {turn deep : Int} {a b : Hv} {kI kS : Kn} {w : World}

set_option maxRecDepth 100000 in
set_option maxHeartbeats 1000000 in
theorem bk_marks (H : Star base (bookL base kb turn deep a b kI kS) w) (gi : kI.Good a.s) (gs : kS.Good b.s) (fi : kI.fs = []) (fs : kS.fs = []) (bs : base ≤ w.heap.size) (tn : 0 ≤ turn ∧ turn ≤ 10000) :
    Calls Tryz.prog 128 #[.pointer (some ⟨kb, 0, none⟩)] w (MarksOut base kb turn deep a.s b.s (bookL base kb turn deep a b kI kS) w) := by
  have HC0 := Lib.hid (bkmark_Ints H gi fi bs tn)
  have HG := Lib.hid (And.intro gs (And.intro bs fs))
  obtain ⟨L0, hL0⟩ : ∃ q, bookL base kb turn deep a b kI kS = q := ⟨_, rfl⟩
  rw [hL0]
  rw [show hdrPc kb turn deep a b :: (kin base 3 29 1 a kI ++ kin base 64 58 7 b kS) = L0 from hL0] at HC0
  clear H gi gs bs fi fs hL0
  obtain ⟨sa, hsa⟩ : ∃ q, a.s = q := ⟨_, rfl⟩
  obtain ⟨sb, hsb⟩ : ∃ q, b.s = q := ⟨_, rfl⟩
  rw [hsa, hsb]
  have HSA := Lib.hid hsa
  have HSB := Lib.hid hsb
  clear hsa hsb
  go_enter Tryz.func128, Tryz.ntmps128
  go_wp2_with fail
  refine HC0.out.mono ?_
  rintro e w1 ⟨rfl, a1, kI1, s1, g1, gi1, hs1⟩
  have HA1 := Lib.hid (And.intro gi1 hs1)
  have s1 : Star base (bookL base kb turn deep a1 b kI1 kS) w1 := s1
  have g1 : Goes L0 (bookL base kb turn deep a1 b kI1 kS) w w1 := g1
  have HB1 := Lib.hid (Nat.le_trans HG.out.2.1 g1.only.size)
  have HX1 := Lib.hid (And.intro s1 g1)
  clear s1 g1 gi1 hs1 HC0
  go_wp2_with fail
  refine (bkmark_Texts (book_hdr HX1.out.1)).mono ?_
  rintro e w' ⟨rfl, rfl⟩
  go_wp2_with fail
  refine (bkmark_Pairs (book_hdr HX1.out.1)).mono ?_
  rintro e w' ⟨rfl, rfl⟩
  have HC4 := Lib.hid (bkmark_Slots (HX1.out.1.perm (bookL_perm _ _ _ _ _ _ _ _)) HG.out.1 HG.out.2.2 HB1.out tn)
  go_wp2_with fail
  refine HC4.out.mono ?_
  rintro e w2 ⟨rfl, b1, kS1, s1, g1, gi1, hs1⟩
  have HA2 := Lib.hid (And.intro gi1 hs1)
  have s2 : Star base (bookL base kb turn deep a1 b1 kI1 kS1) w2 := s1.perm (bookL_perm _ _ _ _ _ _ _ _).symm
  have g2 : Goes L0 (bookL base kb turn deep a1 b1 kI1 kS1) w w2 := ((HX1.out.2.trans (Goes.perm (bookL_perm _ _ _ _ _ _ _ _))).trans g1).trans (Goes.perm (bookL_perm _ _ _ _ _ _ _ _).symm)
  have HB2 := Lib.hid (Nat.le_trans HG.out.2.1 g2.only.size)
  have HX2 := Lib.hid (And.intro s2 g2)
  clear s1 g1 gi1 hs1 HC4 s2 g2
  go_wp2_with fail
  refine (bkmark_Changes (book_hdr HX2.out.1)).mono ?_
  rintro e w' ⟨rfl, rfl⟩
  go_wp2_with fail
  refine (bkmark_Opens (book_hdr HX2.out.1)).mono ?_
  rintro e w' ⟨rfl, rfl⟩
  go_wp2_with fail
  refine (bkmark_Lists (book_hdr HX2.out.1)).mono ?_
  rintro e w' ⟨rfl, rfl⟩
  go_wp2_with fail
  refine (bkmark_Answers (book_hdr HX2.out.1)).mono ?_
  rintro e w' ⟨rfl, rfl⟩
  go_wp2_with fail
  refine (bkmark_AnswerLists (book_hdr HX2.out.1)).mono ?_
  rintro e w' ⟨rfl, rfl⟩
  go_wp2_with fail
  refine (bkmark_Calls (book_hdr HX2.out.1)).mono ?_
  rintro e w' ⟨rfl, rfl⟩
  go_wp2_with fail
  refine (bkmark_CallLists (book_hdr HX2.out.1)).mono ?_
  rintro e w' ⟨rfl, rfl⟩
  go_wp2_with fail
  go_end0
  exact ⟨rfl, a1, b1, kI1, kS1, HX2.out.1, HX2.out.2, HA1.out.1, HA2.out.1, HA1.out.2.trans HSA.out, HA2.out.2.trans HSB.out⟩

set_option maxRecDepth 100000 in
set_option maxHeartbeats 1000000 in
theorem bk_grows (H : Star base (bookL base kb turn deep a b kI kS) w) (gi : kI.Good a.s) (gs : kS.Good b.s) (bs : base ≤ w.heap.size) (tn : 0 ≤ turn ∧ turn ≤ 10000) :
    Calls Tryz.prog 129 #[.pointer (some ⟨kb, 0, none⟩)] w (GrowsOut base kb turn deep a.s b.s (bookL base kb turn deep a b kI kS) w) := by
  have HC0 := Lib.hid (bkgrow_Ints H gi bs tn)
  have HG := Lib.hid (And.intro gs (And.intro bs gi))
  obtain ⟨L0, hL0⟩ : ∃ q, bookL base kb turn deep a b kI kS = q := ⟨_, rfl⟩
  rw [hL0]
  rw [show hdrPc kb turn deep a b :: (kin base 3 29 1 a kI ++ kin base 64 58 7 b kS) = L0 from hL0] at HC0
  clear H gi gs bs hL0
  obtain ⟨sa, hsa⟩ : ∃ q, a.s = q := ⟨_, rfl⟩
  obtain ⟨sb, hsb⟩ : ∃ q, b.s = q := ⟨_, rfl⟩
  rw [hsa, hsb]
  have HSA := Lib.hid hsa
  have HSB := Lib.hid hsb
  clear hsa hsb
  go_enter Tryz.func129, Tryz.ntmps129
  go_wp2_with fail
  refine HC0.out.mono ?_
  rintro e w1 ⟨rfl, a1, kI1, s1, g1, gi1, hs1, f1⟩
  have HA1 := Lib.hid (And.intro gi1 (And.intro hs1 f1))
  have s1 : Star base (bookL base kb turn deep a1 b kI1 kS) w1 := s1
  have g1 : Goes L0 (bookL base kb turn deep a1 b kI1 kS) w w1 := g1
  have HB1 := Lib.hid (Nat.le_trans HG.out.2.1 g1.only.size)
  have HX1 := Lib.hid (And.intro s1 g1)
  clear s1 g1 gi1 hs1 f1 HC0
  go_wp2_with fail
  refine (bkgrow_Texts (book_hdr HX1.out.1)).mono ?_
  rintro e w2 ⟨rfl, hr, ho⟩
  have s2 := HX1.out.1.hdr 0 rfl ho hr HB1.out
  have HB2 := Lib.hid (Nat.le_trans HB1.out ho.size)
  have HX2 : Hid (Star base (bookL base kb turn deep a1 b kI1 kS) w2 ∧ Goes L0 (bookL base kb turn deep a1 b kI1 kS) w w2) := Lib.hid (And.intro s2.1 (HX1.out.2.trans s2.2))
  clear hr ho s2
  go_wp2_with fail
  refine (bkgrow_Pairs (book_hdr HX2.out.1)).mono ?_
  rintro e w3 ⟨rfl, hr, ho⟩
  have s2 := HX2.out.1.hdr 0 rfl ho hr HB2.out
  have HB3 := Lib.hid (Nat.le_trans HB2.out ho.size)
  have HX3 : Hid (Star base (bookL base kb turn deep a1 b kI1 kS) w3 ∧ Goes L0 (bookL base kb turn deep a1 b kI1 kS) w w3) := Lib.hid (And.intro s2.1 (HX2.out.2.trans s2.2))
  clear hr ho s2
  have HC4 := Lib.hid (bkgrow_Slots (HX3.out.1.perm (bookL_perm _ _ _ _ _ _ _ _)) HG.out.1 HB3.out tn)
  go_wp2_with fail
  refine HC4.out.mono ?_
  rintro e w4 ⟨rfl, b1, kS1, s1, g1, gi1, hs1, f1⟩
  have HA2 := Lib.hid (And.intro gi1 (And.intro hs1 f1))
  have s2 : Star base (bookL base kb turn deep a1 b1 kI1 kS1) w4 := s1.perm (bookL_perm _ _ _ _ _ _ _ _).symm
  have g2 : Goes L0 (bookL base kb turn deep a1 b1 kI1 kS1) w w4 := ((HX3.out.2.trans (Goes.perm (bookL_perm _ _ _ _ _ _ _ _))).trans g1).trans (Goes.perm (bookL_perm _ _ _ _ _ _ _ _).symm)
  have HB4 := Lib.hid (Nat.le_trans HG.out.2.1 g2.only.size)
  have HX4 := Lib.hid (And.intro s2 g2)
  clear s1 g1 gi1 hs1 f1 HC4 s2 g2
  go_wp2_with fail
  refine (bkgrow_Changes (book_hdr HX4.out.1)).mono ?_
  rintro e w5 ⟨rfl, hr, ho⟩
  have s2 := HX4.out.1.hdr 0 rfl ho hr HB4.out
  have HB5 := Lib.hid (Nat.le_trans HB4.out ho.size)
  have HX5 : Hid (Star base (bookL base kb turn deep a1 b1 kI1 kS1) w5 ∧ Goes L0 (bookL base kb turn deep a1 b1 kI1 kS1) w w5) := Lib.hid (And.intro s2.1 (HX4.out.2.trans s2.2))
  clear hr ho s2
  go_wp2_with fail
  refine (bkgrow_Opens (book_hdr HX5.out.1)).mono ?_
  rintro e w6 ⟨rfl, hr, ho⟩
  have s2 := HX5.out.1.hdr 0 rfl ho hr HB5.out
  have HB6 := Lib.hid (Nat.le_trans HB5.out ho.size)
  have HX6 : Hid (Star base (bookL base kb turn deep a1 b1 kI1 kS1) w6 ∧ Goes L0 (bookL base kb turn deep a1 b1 kI1 kS1) w w6) := Lib.hid (And.intro s2.1 (HX5.out.2.trans s2.2))
  clear hr ho s2
  go_wp2_with fail
  refine (bkgrow_Lists (book_hdr HX6.out.1)).mono ?_
  rintro e w7 ⟨rfl, hr, ho⟩
  have s2 := HX6.out.1.hdr 0 rfl ho hr HB6.out
  have HB7 := Lib.hid (Nat.le_trans HB6.out ho.size)
  have HX7 : Hid (Star base (bookL base kb turn deep a1 b1 kI1 kS1) w7 ∧ Goes L0 (bookL base kb turn deep a1 b1 kI1 kS1) w w7) := Lib.hid (And.intro s2.1 (HX6.out.2.trans s2.2))
  clear hr ho s2
  go_wp2_with fail
  refine (bkgrow_Answers (book_hdr HX7.out.1)).mono ?_
  rintro e w8 ⟨rfl, hr, ho⟩
  have s2 := HX7.out.1.hdr 0 rfl ho hr HB7.out
  have HB8 := Lib.hid (Nat.le_trans HB7.out ho.size)
  have HX8 : Hid (Star base (bookL base kb turn deep a1 b1 kI1 kS1) w8 ∧ Goes L0 (bookL base kb turn deep a1 b1 kI1 kS1) w w8) := Lib.hid (And.intro s2.1 (HX7.out.2.trans s2.2))
  clear hr ho s2
  go_wp2_with fail
  refine (bkgrow_AnswerLists (book_hdr HX8.out.1)).mono ?_
  rintro e w9 ⟨rfl, hr, ho⟩
  have s2 := HX8.out.1.hdr 0 rfl ho hr HB8.out
  have HB9 := Lib.hid (Nat.le_trans HB8.out ho.size)
  have HX9 : Hid (Star base (bookL base kb turn deep a1 b1 kI1 kS1) w9 ∧ Goes L0 (bookL base kb turn deep a1 b1 kI1 kS1) w w9) := Lib.hid (And.intro s2.1 (HX8.out.2.trans s2.2))
  clear hr ho s2
  go_wp2_with fail
  refine (bkgrow_Calls (book_hdr HX9.out.1)).mono ?_
  rintro e w10 ⟨rfl, hr, ho⟩
  have s2 := HX9.out.1.hdr 0 rfl ho hr HB9.out
  have HB10 := Lib.hid (Nat.le_trans HB9.out ho.size)
  have HX10 : Hid (Star base (bookL base kb turn deep a1 b1 kI1 kS1) w10 ∧ Goes L0 (bookL base kb turn deep a1 b1 kI1 kS1) w w10) := Lib.hid (And.intro s2.1 (HX9.out.2.trans s2.2))
  clear hr ho s2
  go_wp2_with fail
  refine (bkgrow_CallLists (book_hdr HX10.out.1)).mono ?_
  rintro e w11 ⟨rfl, hr, ho⟩
  have s2 := HX10.out.1.hdr 0 rfl ho hr HB10.out
  have HB11 := Lib.hid (Nat.le_trans HB10.out ho.size)
  have HX11 : Hid (Star base (bookL base kb turn deep a1 b1 kI1 kS1) w11 ∧ Goes L0 (bookL base kb turn deep a1 b1 kI1 kS1) w w11) := Lib.hid (And.intro s2.1 (HX10.out.2.trans s2.2))
  clear hr ho s2
  go_wp2_with fail
  go_end0
  exact ⟨rfl, a1, b1, kI1, kS1, HX11.out.1, HX11.out.2, HA1.out.1, HA2.out.1, HA1.out.2.1.trans HSA.out, HA2.out.2.1.trans HSB.out, HA1.out.2.2, HA2.out.2.2⟩

end

set_option maxRecDepth 100000 in
set_option maxHeartbeats 1000000 in
theorem done_law : DoneLaw := by
  intro base kb turn a b kI kS w H ht
  obtain ⟨L0, hL0⟩ : ∃ q, bookL base kb turn 1 a b kI kS = q := ⟨_, rfl⟩
  have hh := book_hdr H.star
  have c3 := (hdr_now hh).2.2.2
  have f3 : w.frozen? ⟨kb, 3, none⟩ = false := hh.free _
  have s1 := H.star.hdr 0 rfl (Only.setCell w (a := ⟨kb, 3, none⟩) (by simp) (.int .i64 0)) (hdr_deep hh 0) H.bs
  have HX1 : Hid (Star base (bookL base kb turn 0 a b kI kS) _ ∧ Goes L0 (bookL base kb turn 0 a b kI kS) w _) := Lib.hid (And.intro s1.1 (Goes.congr (l := bookL base kb turn 0 a b kI kS) s1.2 hL0))
  have HH := Lib.hid H
  rw [hL0]
  clear s1 hh H hL0
  obtain ⟨sa, hsa⟩ : ∃ q, a.s = q := ⟨_, rfl⟩
  obtain ⟨sb, hsb⟩ : ∃ q, b.s = q := ⟨_, rfl⟩
  rw [hsa, hsb]
  have HSA := Lib.hid hsa
  have HSB := Lib.hid hsb
  clear hsa hsb
  go_enter Tryz.func92, Tryz.ntmps92
  go_upto_region 1 with fail
  refine wp_star HX1.out ?_
  clear c3 f3 HX1
  intro w1 s1 g1
  have c3 := (hdr_now (book_hdr s1)).2.2.2
  have HB1 := Lib.hid (Nat.le_trans HH.out.bs g1.only.size)
  have HM := Lib.hid (bk_marks s1 HH.out.gi HH.out.gs HH.out.fi HH.out.fs HB1.out HH.out.tn)
  have HG1 := Lib.hid g1
  clear s1 g1
  go_wp2_with fail
  refine HM.out.mono ?_
  rintro e w2 ⟨rfl, a2, b2, kI2, kS2, s2, g2, gi2, gs2, ha2, hb2⟩
  have HB2 := Lib.hid (Nat.le_trans HB1.out g2.only.size)
  have HGR := Lib.hid (bk_grows s2 gi2 gs2 HB2.out HH.out.tn)
  have HG2 := Lib.hid (And.intro (HG1.out.trans g2) (And.intro ha2 hb2))
  clear s2 g2 gi2 gs2 ha2 hb2 c3 HM
  go_wp2_with fail
  refine HGR.out.mono ?_
  rintro e w3 ⟨rfl, a3, b3, kI3, kS3, s3, g3, gi3, gs3, ha3, hb3, fi3, fs3⟩
  have hh := book_hdr s3
  have hb3' := Nat.le_trans HB2.out g3.only.size
  have c2 := (hdr_now hh).2.2.1
  have f2 : w3.frozen? ⟨kb, 2, none⟩ = false := hh.free _
  have tn := HH.out.tn
  have s4 := s3.hdr 0 rfl (Only.setCell w3 (a := ⟨kb, 2, none⟩) (by simp) (.int .i64 (turn + 1))) (hdr_turn hh (turn + 1)) hb3'
  have HF : Hid (BookIn (w3.setCell ⟨kb, 2, none⟩ (.int .i64 (turn + 1))) base kb (turn + 1) 0 a3 b3 kI3 kS3 ∧ Goes L0 (bookL base kb (turn + 1) 0 a3 b3 kI3 kS3) w (w3.setCell ⟨kb, 2, none⟩ (.int .i64 (turn + 1))) ∧ a3.s = sa ∧ b3.s = sb) := Lib.hid ⟨⟨s4.1, gi3, gs3, fi3, fs3, Nat.le_trans hb3' s4.2.only.size, by omega, by omega⟩, (HG2.out.1.trans g3).trans s4.2, ha3.trans (HG2.out.2.1.trans HSA.out), hb3.trans (HG2.out.2.2.trans HSB.out)⟩
  clear s3 g3 gi3 gs3 ha3 hb3 fi3 fs3 hh hb3' s4 HGR
  go_wp2_with fail
  go_end0
  exact ⟨rfl, a3, b3, kI3, kS3, HF.out⟩

set_option maxRecDepth 100000 in
set_option maxHeartbeats 1000000 in
theorem bk_hold {base kb : Nat} {turn : Int} {a b : Hv} {kI kS : Kn} {w : World} (H : BookIn w base kb turn 0 a b kI kS) :
    Calls Tryz.prog 8 #[.pointer (some ⟨kb, 0, none⟩)] w fun e w' => e = .returned (.bool true) ∧ Only [] w w' := by
  have hh := book_hdr H.star
  have c1 := (hdr_now hh).2.1
  have HI := Lib.hid (fun W (o : Only [] w W) => bkhold_Ints (H.star.plain o) H.gi H.fi)
  have HS := Lib.hid (fun W (o : Only [] w W) => bkhold_Slots ((H.star.plain o).perm (bookL_perm _ _ _ _ _ _ _ _)) H.gs H.fs)
  have HH := Lib.hid (fun W (o : Only [] w W) => hh.only o (by simp))
  clear hh H
  go_enter Tryz.func8, Tryz.ntmps8
  go_wp2_with fail
  refine (HI.out _ (Only.refl _ _)).mono ?_
  rintro e w1 ⟨rfl, o1⟩
  have HO1 := Lib.hid o1
  clear o1 c1
  go_wp2_with fail
  refine (bkhold_Texts (HH.out _ HO1.out)).mono ?_
  rintro e w' ⟨rfl, rfl⟩
  go_wp2_with fail
  refine (bkhold_Pairs (HH.out _ HO1.out)).mono ?_
  rintro e w' ⟨rfl, rfl⟩
  go_wp2_with fail
  refine (HS.out _ HO1.out).mono ?_
  rintro e w2 ⟨rfl, o1⟩
  have HO2 := Lib.hid (HO1.out.trans o1)
  clear o1
  go_wp2_with fail
  refine (bkhold_Changes (HH.out _ HO2.out)).mono ?_
  rintro e w' ⟨rfl, rfl⟩
  go_wp2_with fail
  refine (bkhold_Opens (HH.out _ HO2.out)).mono ?_
  rintro e w' ⟨rfl, rfl⟩
  go_wp2_with fail
  refine (bkhold_Lists (HH.out _ HO2.out)).mono ?_
  rintro e w' ⟨rfl, rfl⟩
  go_wp2_with fail
  refine (bkhold_Answers (HH.out _ HO2.out)).mono ?_
  rintro e w' ⟨rfl, rfl⟩
  go_wp2_with fail
  refine (bkhold_AnswerLists (HH.out _ HO2.out)).mono ?_
  rintro e w' ⟨rfl, rfl⟩
  go_wp2_with fail
  refine (bkhold_Calls (HH.out _ HO2.out)).mono ?_
  rintro e w' ⟨rfl, rfl⟩
  go_wp2_with fail
  refine (bkhold_CallLists (HH.out _ HO2.out)).mono ?_
  rintro e w' ⟨rfl, rfl⟩
  go_wp2_with fail
  go_ret
  exact ⟨rfl, HO2.out⟩

/-- A new book: nothing is kept yet. -/
def hv0 : Hv := ⟨.slice none 0 0, .slice none 0 0, .slice none 0 0, .slice none 0 0, .slice none 0 0, .slice none 0 0, .slice none 0 0, .slice none 0 0, 0⟩

def kn0 : Kn := ⟨[], [], [], [], []⟩

theorem kn0_good : kn0.Good 0 := ⟨by simp [kn0], by simp [kn0], by simp [kn0], by simp [kn0], by simp [kn0], by simp [kn0], by omega⟩

theorem book_new {w : World} {kb : Nat} (h : RowV w kb 103 (hdrF 0 0 hv0 hv0) 41) : BookIn w kb kb 0 0 hv0 hv0 kn0 kn0 := by
  have hlt := h.lt
  refine ⟨⟨fun p hp => ?_, fun p hp => ?_, fun b hb => ?_, ?_⟩, kn0_good, kn0_good, rfl, rfl, by omega, by omega⟩
  · simp only [bookL, kin, kn0, List.mem_cons, List.mem_append, List.not_mem_nil, or_false] at hp
    rcases hp with rfl | (rfl | rfl | rfl | rfl | rfl | rfl | rfl | rfl | rfl) | (rfl | rfl | rfl | rfl | rfl | rfl | rfl | rfl | rfl)
    · exact h
    all_goals first | exact World.ownsRow_nil _ _ _ _ | exact ⟨by simp, by simp, by simp, by simp⟩
  · simp only [bookL, kin, kn0, List.mem_cons, List.mem_append, List.not_mem_nil, or_false] at hp
    rcases hp with rfl | (rfl | rfl | rfl | rfl | rfl | rfl | rfl | rfl | rfl) | (rfl | rfl | rfl | rfl | rfl | rfl | rfl | rfl | rfl)
    · exact hdrPc_ok _ _ _ _ _
    all_goals first | exact rowPc_ok _ _ _ _ _ _ | exact memPc_ok _ _ _ _ _ _
  · have : b = kb := by simpa [bls, bookL, kin, kn0, hdrPc, rowPc, memPc, hv0, Value.ownBlock] using hb
    omega
  · simp [bookL, kin, kn0, hdrPc, rowPc, memPc, hv0, Value.ownBlock]

end Go.Proofs.YtpknnamficegbaaGreatDoor

