/- The document's pool: Take. Conditions: the pool stands in memory as RefP says. · The document's pool: Take of a full pool, Give, Back. Conditions: the pool stands in memory as RefP says. · The document's pool: Read. Conditions: the pool stands in memory as RefP says. · The document's pool: Slots, List, Faults. Conditions: the pool stands in memory as RefQ says. -/
import Derived.Deep.RegionHeld3
import Derived.Test.YtpknnamficegbaaGreatDoorCSlots
import Derived.Test.YtpknnamficegbaaGreatDoorCRefY
set_option linter.unusedVariables false
set_option linter.unusedSimpArgs false
set_option linter.unusedSectionVars false
set_option linter.unnecessarySimpa false
namespace Go.Proofs.YtpknnamficegbaaGreatDoor
open Go.RowKit

section
variable {w w' : World} {A : RP} {tb k n hd : Nat} {S : Nat → Sl} {t : Int} {nx : List Int} {fa : Int}

theorem RefP.rp (H : RefP w A tb k n S hd t nx fa) : Rp w A.pl A.m A.wb A.cap tb k n hd t nx S := H.q.q.p H.th ⟨H.low.2.2.2.1, H.low.2.1, H.low.2.2.1⟩

theorem RefP.of_rp {k' hd' : Nat} {t' : Int} {nx' : List Int} (H : RefP w A tb k n S hd t nx fa) (hR : Rp w' A.pl A.m A.wb A.cap tb k' n hd' t' nx' S) (o : Byd tb [A.wb] w w') : RefP w' A tb k' n S hd' t' nx' fa := by
  have ha := H.q.apart
  exact ⟨⟨H.q.head.only o.only (Byd.not_in (H.mem_lt (by simp [RP.all])) (by simp; exact ha.2.1)), H.q.row.only o.only (Byd.not_in (H.mem_lt (by simp [RP.all])) (by simp; exact ha.2.2.2.2.2.1)), hR.q, ha⟩, hR.th, H.low⟩

theorem RefP.plain (H : RefP w A tb k n S hd t nx fa) (o : Only [] w w') : RefP w' A tb k n S hd t nx fa := ⟨H.q.plain o, H.th.only o (by simp), H.low⟩

theorem Byd.plain (H : RefP w A tb k n S hd t nx fa) (o : Only [] w w') : Byd tb A.all w w' := Byd.slots H o (by simp)

/-- A generation is put. -/
theorem RefP.gens {i : Nat} {s : Sl} (H : RefP w A tb k n S hd t nx fa) (hM : MemAt w' A.m A.wb (2 * n + 3) A.cap (upd (wordsF n hd t nx S) (n + 2 + i) s.gen)) (hs : ∀ l, l < 7 → s.gd l = (S i).gd l) (o : Only [A.wb] w w') : RefP w' A tb k n (upS S i s) hd t nx fa := by
  have ha := H.q.apart
  have hl := H.low
  have hq := H.q.q
  rw [wordsF_upgen] at hM
  exact ⟨⟨H.q.head.only o (by simp; exact ha.2.1), (H.q.row.only o (by simp; exact ha.2.2.2.2.2.1)).congr (fun j _ => flatD_gen S i s hs j), ⟨hq.pile.only o (by simp; exact hq.off.2), hM, hq.off, hq.many, hq.tag, hq.hdr, hq.len, hq.rng⟩, ha⟩, H.th.only o (by simp; omega), hl⟩

theorem ref_gen_get (H : RefP w A tb k n S hd t nx fa) {i : Nat} (h2 : i ≤ n) : Calls Tryz.prog 74 #[.pointer (some ⟨A.m, 0, none⟩), .int .i64 ((n + 2 + i : Nat) : Int)] w fun e w' => e = .returned (.int .i64 (S i).gen) ∧ w = w' := by
  have hm := H.q.q.many
  have h := mem_get (a := n + 2 + i) H.q.q.mem (by omega) (by omega)
  rw [wordsF_gen] at h
  exact h

theorem ref_gen_put (H : RefP w A tb k n S hd t nx fa) {i : Nat} (h2 : i ≤ n) (x : Int) : Calls Tryz.prog 73 #[.pointer (some ⟨A.m, 0, none⟩), .int .i64 ((n + 2 + i : Nat) : Int), .int .i64 x] w fun e w' => e = .returned (.tuple #[]) ∧ RefP w' A tb k n (upS S i { S i with gen := x }) hd t nx fa ∧ Only [A.wb] w w' := by
  have hm := H.q.q.many
  refine (mem_put (a := n + 2 + i) (x := x) H.q.q.mem (by omega) (by omega)).mono ?_
  rintro e w' ⟨rfl, hM, o⟩
  exact ⟨rfl, H.gens hM (by intro l hl; match l, hl with | 0, _ => rfl | 1, _ => rfl | 2, _ => rfl | 3, _ => rfl | 4, _ => rfl | 5, _ => rfl | l + 6, _ => rfl) o, o⟩

theorem _root_.Go.Proofs.YtpknnamficegbaaGreatDoor.ThAt.log_lt {mb : Nat} (h : ThAt w tb mb k) : logB w tb ≠ some w.heap.size := by
  obtain ⟨own, log, L, left, hB, hO, _⟩ := h
  intro e
  have e1 : logB w tb = log.ownBlock := by unfold logB; rw [hB.cell 4 rfl]; rfl
  rw [e1] at e
  have := (hO.lt _ e).2
  omega

theorem RowI.putD7 {W w1 : World} {b N : Nat} {S : Nat → Sl} {T : TypeId} (h : RowI W b N (flatD S) T) (i : Nat) (s : Sl) (hw : ((((((W.setCell ⟨b, i * 7, none⟩ (.int .i64 0)).setCell ⟨b, i * 7 + 1, none⟩ (.int .i64 s.a)).setCell ⟨b, i * 7 + 2, none⟩ (.int .i64 s.b)).setCell ⟨b, i * 7 + 3, none⟩ (.int .i64 s.c)).setCell ⟨b, i * 7 + 4, none⟩ (.int .i64 s.d)).setCell ⟨b, i * 7 + 5, none⟩ (.int .i64 s.mark)).setCell ⟨b, i * 7 + 6, none⟩ (.int .i64 s.link) = w1) :
    RowI w1 b N (flatD (upS S i s)) T := by
  subst hw
  refine (((((((h.set (i * 7) 0).set (i * 7 + 1) s.a).set (i * 7 + 2) s.b).set (i * 7 + 3) s.c).set (i * 7 + 4) s.d).set (i * 7 + 5) s.mark).set (i * 7 + 6) s.link).congr fun j _ => ?_
  by_cases hi : j / 7 = i
  · obtain ⟨r, hr, hj⟩ : ∃ r, r < 7 ∧ j = i * 7 + r := ⟨j % 7, by omega, by omega⟩
    subst hj
    rw [flatD_at _ _ _ hr, upS_same]
    unfold upd
    match r, hr with
    | 0, _ => simp [Sl.gd]
    | 1, _ => simp [Sl.gd]
    | 2, _ => simp [Sl.gd]
    | 3, _ => simp [Sl.gd]
    | 4, _ => simp [Sl.gd]
    | 5, _ => simp [Sl.gd]
    | 6, _ => simp [Sl.gd]
  · unfold upd
    rw [if_neg (by omega), if_neg (by omega), if_neg (by omega), if_neg (by omega), if_neg (by omega), if_neg (by omega), if_neg (by omega)]
    unfold flatD upS
    rw [if_neg hi]

theorem RefP.put7 {W w1 : World} {i : Nat} (H : RefP w A tb k n S hd t nx fa) (s : Sl) (hg : s.gen = (S i).gen) (_ : i ≤ n) (o : Only [] w W) (hw : ((((((W.setCell ⟨A.sb, i * 7, none⟩ (.int .i64 0)).setCell ⟨A.sb, i * 7 + 1, none⟩ (.int .i64 s.a)).setCell ⟨A.sb, i * 7 + 2, none⟩ (.int .i64 s.b)).setCell ⟨A.sb, i * 7 + 3, none⟩ (.int .i64 s.c)).setCell ⟨A.sb, i * 7 + 4, none⟩ (.int .i64 s.d)).setCell ⟨A.sb, i * 7 + 5, none⟩ (.int .i64 s.mark)).setCell ⟨A.sb, i * 7 + 6, none⟩ (.int .i64 s.link) = w1) :
    RefP w1 A tb k n (upS S i s) hd t nx fa ∧ Byd tb A.all w w1 := by
  have hP := H.plain o
  have o2 : Only [A.sb] W w1 := by
    subst hw
    exact ((((((Only.setCell _ (by simp) _).trans (Only.setCell _ (by simp) _)).trans (Only.setCell _ (by simp) _)).trans (Only.setCell _ (by simp) _)).trans (Only.setCell _ (by simp) _)).trans (Only.setCell _ (by simp) _)).trans (Only.setCell _ (by simp) _)
  refine ⟨hP.slots (hP.q.row.putD7 i s hw) (fun j => ?_) o2 (Nat.le_refl _), (Byd.plain H o).trans (Byd.slots hP o2 (by simp [RP.all]))⟩
  unfold upS
  split
  · rename_i h
    rw [hg, h]
  · rfl

set_option maxHeartbeats 1000000 in
theorem ref_take {j : Nat} {xa xb xc xd l : Int} (H : RefP w A tb k n S hd t nx fa) (hk : k ≤ 700000) (h1 : 1 ≤ hd) (hj : nx.getD hd 0 = (j : Nat)) (ht1 : t + 1 ≤ 1000000000000) (hg : 0 ≤ (S hd).gen ∧ (S hd).gen ≤ 1000000000000) :
    Calls Tryz.prog 20 #[.pointer (some ⟨A.r, 0, none⟩), .pointer (some ⟨tb, 0, none⟩), .agg #[.int .i64 xa, .int .i64 xb, .int .i64 xc, .int .i64 xd], .int .i64 l] w fun e w' => e = .returned (.tuple #[.int .i64 (wd (hd : Nat) ((S hd).gen + 1)), .int .i64 0]) ∧ RefP w' A tb (k + 20) n (upS S hd ⟨(S hd).gen + 1, 0, l, xa, xb, xc, xd⟩) j (t + 1) nx fa ∧ Byd tb A.all w w' := by
  have hm := H.q.q.many
  have hh := H.q.q.hdr
  have H0 := Lib.hid H
  obtain ⟨g, hge⟩ : ∃ g, (S hd).gen = g := ⟨_, rfl⟩
  rw [hge] at hg ⊢
  obtain ⟨S5, hS5⟩ : ∃ S5, upS S hd ⟨g + 1, 0, l, xa, xb, xc, xd⟩ = S5 := ⟨_, rfl⟩
  rw [hS5]
  obtain ⟨X, hX⟩ : ∃ X, wd (hd : Int) (g + 1) = X := ⟨_, rfl⟩
  rw [hX]
  have HXX := Lib.hid hX
  have HS5 := Lib.hid hS5
  have HGE := Lib.hid hge
  clear H hge hS5 hX
  go_enter Tryz.func20, Tryz.ntmps20
  go_upto_region 1 with fail
  have hbx : tb < w.heap.size := H0.out.th.lt
  refine wp_name (fun w1 => RefP w1 A tb k n S hd t nx fa ∧ Byd tb A.all w w1 ∧ ∃ bx, bx = w.heap.size ∧ Blk w1 bx #[.int .i64 xa, .int .i64 xb, .int .i64 xc, .int .i64 xd] 43 ∧ NotTh w1 tb bx ∧ tb < bx) ⟨H0.out.plain (Only.alloc _ _ _), Byd.plain H0.out (Only.alloc _ _ _), w.heap.size, rfl, Blk.new _ _ _, ⟨by omega, fun e => by rw [logB_only (Only.alloc [] w _) hbx (by simp)] at e; exact absurd e (H0.out.th.log_lt)⟩, hbx⟩ ?_
  rintro w1 ⟨hP, hX, bx, hbe, hB, hN, hbt⟩
  rw [← hbe]
  clear hbe hbx
  have HP1 := Lib.hid (And.intro hP hX)
  have HB1 := Lib.hid (And.intro hB hN)
  obtain ⟨c0, c1, c2, c3, c4, c5⟩ := hP.q.c
  have HPOP := Lib.hid (ref_pop hP.rp (by omega) h1 hj ht1)
  clear hP hX hB hN
  go_wp2_with fail
  refine HPOP.out.mono ?_
  rintro e w2 ⟨rfl, hR, hX⟩
  have hP2 := HP1.out.1.of_rp hR hX
  have t2 := hP2.m
  have hB2 := hX.blk HB1.out.1 (by simp; have := HP1.out.1.low; omega) HB1.out.2
  have HP2 := Lib.hid (And.intro hP2 (HP1.out.2.trans (hX.mono (by simp +contextual [RP.all]))))
  have HB2 := Lib.hid hB2
  clear hP2 hB2 hR hX c0 c1 c2 c3 c4 c5 HPOP HP1 HB1
  go_wp2_with fail
  refine (th_fresh HP2.out.1.th (by omega)).mono ?_
  rintro e w3 ⟨rfl, hT, hX⟩
  have hP3 := HP2.out.1.step hT hX
  have hB3 := hX.blk HB2.out.1 (by simp) HB2.out.2
  obtain ⟨c0, c1, c2, c3, c4, c5⟩ := hP3.q.c
  have hw1 : IntKind.i64.wrap ((n : Int) + 2 + (hd : Int)) = ((n + 2 + hd : Nat) : Int) := by rw [IntWalk.i64_in _ ⟨by omega, by omega⟩]; omega
  have hw2 : IntKind.i64.wrap (g + 1) = g + 1 := IntWalk.i64_in _ ⟨by omega, by omega⟩
  have HG := Lib.hid (fun W (o : Only [] w3 W) => ref_gen_get (hP3.plain o) hh)
  rw [HGE.out] at HG
  have HPU := Lib.hid (fun W (o : Only [] w3 W) => ref_gen_put (hP3.plain o) hh (g + 1))
  have HP3 := Lib.hid (And.intro hP3 (HP2.out.2.trans hX.all))
  have HB3 := Lib.hid hB3
  clear hP3 hB3 hT hX t2 HP2 HB2
  have HK : Hid (∀ w', Only [A.wb] w3 w' → w'.cell? ⟨A.r, 0, none⟩ = some (.pointer (some ⟨A.m, 0, none⟩)) ∧ w'.cell? ⟨A.r, 2, none⟩ = some (.int .i64 ((n : Int) + 2))) := Lib.hid (fun w' o => ⟨keep_off o (by simp; exact HP3.out.1.q.apart.2.1) c0, keep_off o (by simp; exact HP3.out.1.q.apart.2.1) c2⟩)
  go_upto_region 7 with fail
  go_region_held3 (fun W => W.cell? ⟨A.r, 0, none⟩ = some (.pointer (some ⟨A.m, 0, none⟩)) ∧ W.cell? ⟨A.r, 2, none⟩ = some (.int .i64 ((n : Int) + 2)))
    (first | exact ⟨c0, c2⟩ | exact HK.out _ ((Only.drew _ _).trans hX4))
    (first | (go_at_call 74; refine (HG.out w3.drew (Only.drew _ _)).mono ?_; rintro e w4 ⟨rfl, rfl⟩) | (go_at_call 73; refine (HPU.out w3.drew (Only.drew _ _)).mono ?_; rintro e w4 ⟨rfl, hP4, hX4⟩))
  have hX4' : Only [A.wb] w3 w4 := (Only.drew _ _).trans hX4
  obtain ⟨S4, hS4⟩ : ∃ S4, upS S hd { S hd with gen := g + 1 } = S4 := ⟨_, rfl⟩
  rw [hS4] at hP4
  have HS4 := Lib.hid hS4
  have hb4 := HB3.out.1.only hX4' (by simp; have := HP3.out.1.low; omega)
  have hn4 : NotTh w4 tb bx := ⟨HB3.out.2.1, by rw [logB_only hX4' HP3.out.1.th.lt (by simp; have := HP3.out.1.low; omega)]; exact HB3.out.2.2⟩
  have HP4 := Lib.hid (And.intro hP4 (HP3.out.2.trans (Byd.slots HP3.out.1 hX4' (by simp [RP.all]))))
  have HB4 := Lib.hid (And.intro hb4 hn4)
  clear hS4 hX4 hX4' HK HG HPU HP3 HB3 c0 c1 c2 c3 c4 c5
  obtain ⟨c0, c1, c2, c3, c4, c5⟩ := hP4.q.c
  have b0 := hb4.cell 0 rfl
  have b1 := hb4.cell 1 rfl
  have b2 := hb4.cell 2 rfl
  have b3 := hb4.cell 3 rfl
  have f0 := hP4.q.row.free (hd * 7)
  have f1 := hP4.q.row.free (hd * 7 + 1)
  have f2 := hP4.q.row.free (hd * 7 + 2)
  have f3 := hP4.q.row.free (hd * 7 + 3)
  have f4 := hP4.q.row.free (hd * 7 + 4)
  have f5 := hP4.q.row.free (hd * 7 + 5)
  have f6 := hP4.q.row.free (hd * 7 + 6)
  have s0 : w4.cell? ⟨A.sb, hd * 7, none⟩ = some (.int .i64 ((S4 hd).gd 0)) := hP4.slotC 0 (by omega) hh
  have s1 := hP4.slotC 1 (by omega) hh
  have s2 := hP4.slotC 2 (by omega) hh
  have s3 := hP4.slotC 3 (by omega) hh
  have s4 := hP4.slotC 4 (by omega) hh
  have s5 := hP4.slotC 5 (by omega) hh
  have s6 := hP4.slotC 6 (by omega) hh
  clear hb4 hn4 hP4
  have hil : (hd : Int) < (n : Int) + 1 := by omega
  go_upto_region 8 with fail
  go_region
  have HE5 : Hid (upS S4 hd ⟨g + 1, 0, l, xa, xb, xc, xd⟩ = S5) := Lib.hid (by rw [← HS4.out, upS_upS, HS5.out])
  have HG5 : Hid ((S5 hd).gen = g + 1) := Lib.hid (by rw [← HS5.out, upS_same])
  go_upto_region 9 with fail
  clear s0 s1 s2 s3 s4 s5 s6 f0 f1 f2 f3 f4 f5 f6 b0 b1 b2 b3 c0 c1 c2 c3 c4 c5
  refine wp_name (fun w5 => RefP w5 A tb (k + 7) n S5 j (t + 1) nx fa ∧ Byd tb A.all w w5) (by
    have h5 := HP4.out.1.put7 ⟨g + 1, 0, l, xa, xb, xc, xd⟩ (i := hd) (by rw [← HS4.out, upS_same]) hh (W := w4) (Only.refl _ _) rfl
    rw [HE5.out] at h5
    exact ⟨h5.1.plain (Only.drew _ _), (HP4.out.2.trans h5.2).trans (Byd.plain h5.1 (Only.drew _ _))⟩) ?_
  clear HP4 HB4 HE5 HS4
  rintro w5 ⟨hP5, hX5⟩
  obtain ⟨c0, c1, c2, c3, c4, c5⟩ := hP5.q.c
  have HG := Lib.hid (fun W (o : Only [] w5 W) => ref_gen_get (hP5.plain o) hh)
  rw [HG5.out] at HG
  have HKP := Lib.hid (fun W (o : Only [] w5 W) => th_kept (v := g + 1) (hP5.plain o).th (by omega))
  have HPK := Lib.hid (fun w => ref_pack (hd : Nat) (g + 1) w (by omega) (by omega) (by omega) (by omega))
  have HP5 := Lib.hid (And.intro hP5 hX5)
  have HK : Hid (∀ W w', Only [] w5 W → Byd tb [] W w' → w'.cell? ⟨A.r, 0, none⟩ = some (.pointer (some ⟨A.m, 0, none⟩)) ∧ w'.cell? ⟨A.r, 2, none⟩ = some (.int .i64 ((n : Int) + 2))) := Lib.hid (fun W w' o h => by
    have := (((HP5.out.1.plain o).q.only h.only (fun b hb => Byd.not_in ((HP5.out.1.plain o).mem_lt hb) (by simp)))).c
    exact ⟨this.1, this.2.2.1⟩)
  rw [HXX.out] at HPK
  clear hP5 hX5
  go_region_held3 (fun W => W.cell? ⟨A.r, 0, none⟩ = some (.pointer (some ⟨A.m, 0, none⟩)) ∧ W.cell? ⟨A.r, 2, none⟩ = some (.int .i64 ((n : Int) + 2)))
    (first | exact ⟨c0, c2⟩ | exact HK.out w5.drew _ (Only.drew _ _) hX6)
    (first | (go_at_call 74; refine (HG.out w5.drew (Only.drew _ _)).mono ?_; rintro e w6 ⟨rfl, rfl⟩) | (go_at_call 76; refine (HKP.out w5.drew (Only.drew _ _)).mono ?_; rintro e w6 ⟨rfl, hT6, hX6⟩) | (go_at_call 75; refine (HPK.out _).mono ?_; rintro e w' ⟨rfl, rfl⟩))
  go_wp2_with fail
  go_ret2
  have hPd := HP5.out.1.plain (Only.drew [] w5)
  exact ⟨rfl, (hPd.step hT6 hX6).mono (by omega), (HP5.out.2.trans (Byd.plain HP5.out.1 (Only.drew _ _))).trans hX6.all⟩
end

end Go.Proofs.YtpknnamficegbaaGreatDoor

namespace Go.Proofs.YtpknnamficegbaaGreatDoor
open Go.RowKit

section
variable {w w' : World} {A : RP} {tb k n hd : Nat} {S : Nat → Sl} {t : Int} {nx : List Int} {fa : Int}

theorem gd_gen (s : Sl) (x : Int) : ∀ l, l < 7 → Sl.gd { s with gen := x } l = s.gd l := by
  intro l hl
  match l, hl with
  | 0, _ => rfl
  | 1, _ => rfl
  | 2, _ => rfl
  | 3, _ => rfl
  | 4, _ => rfl
  | 5, _ => rfl
  | l + 6, _ => rfl

theorem RefP.genb {k' i : Nat} {s : Sl} (H : RefP w A tb k n S hd t nx fa) (hT : ThAt w' tb A.m k') (hM : MemAt w' A.m A.wb (2 * n + 3) A.cap (upd (wordsF n hd t nx S) (n + 2 + i) s.gen)) (hs : ∀ l, l < 7 → s.gd l = (S i).gd l) (o : Byd tb [A.wb] w w') : RefP w' A tb k' n (upS S i s) hd t nx fa := by
  have ha := H.q.apart
  have hl := H.low
  have hq := H.q.q
  rw [wordsF_upgen] at hM
  exact ⟨⟨H.q.head.only o.only (Byd.not_in hl.1 (by simp; exact ha.2.1)), (H.q.row.only o.only (Byd.not_in hl.2.2.2.2 (by simp; exact ha.2.2.2.2.2.1))).congr (fun j _ => flatD_gen S i s hs j), ⟨hq.pile.only o.only (Byd.not_in hl.2.2.2.1 (by simp; exact hq.off.2)), hM, hq.off, hq.many, hq.tag, hq.hdr, hq.len, hq.rng⟩, ha⟩, hT, hl⟩

theorem ref_gen_cas (H : RefP w A tb k n S hd t nx fa) {i : Nat} (h2 : i ≤ n) (hk : k ≤ 900000) {old : Int} (x : Int) (ho : (S i).gen = old) : Calls Tryz.prog 81 #[.pointer (some ⟨tb, 0, none⟩), .int .i64 ((n + 2 + i : Nat) : Int), .int .i64 old, .int .i64 x] w fun e w' => e = .returned (.bool true) ∧ RefP w' A tb (k + 2) n (upS S i { S i with gen := x }) hd t nx fa ∧ Byd tb A.all w w' := by
  have hm := H.q.q.many
  refine (th_cas_hit (a := n + 2 + i) (x := x) H.th hk H.q.q.mem H.low.2.1 H.low.2.2.1 (by omega) (by omega) (by rw [wordsF_gen]; exact ho)).mono ?_
  rintro e w' ⟨rfl, hT, hM, o⟩
  exact ⟨rfl, H.genb (s := { S i with gen := x }) hT hM (gd_gen (S i) x) o, o.mono (by simp +contextual [RP.all])⟩

theorem ref_gen_cas_miss (H : RefP w A tb k n S hd t nx fa) {i : Nat} (h2 : i ≤ n) (hk : k ≤ 900000) {old : Int} (x : Int) (ho : ¬ (S i).gen = old) : Calls Tryz.prog 81 #[.pointer (some ⟨tb, 0, none⟩), .int .i64 ((n + 2 + i : Nat) : Int), .int .i64 old, .int .i64 x] w fun e w' => e = .returned (.bool false) ∧ RefP w' A tb (k + 2) n S hd t nx fa ∧ Byd tb A.all w w' := by
  have hm := H.q.q.many
  refine (th_cas_miss (a := n + 2 + i) (x := x) H.th hk H.q.q.mem H.low.2.1 H.low.2.2.1 (by omega) (by omega) (by rw [wordsF_gen]; exact ho)).mono ?_
  rintro e w' ⟨rfl, hT, o⟩
  exact ⟨rfl, H.step hT o, o.all⟩

theorem ref_push_p (H : RefP w A tb k n S hd t nx fa) {i : Nat} (hk : k ≤ 800000) (h1 : 1 ≤ i) (h2 : i ≤ n) (ht1 : t + 1 ≤ 1000000000000) :
    Calls Tryz.prog 82 #[.pointer (some ⟨A.pl, 0, none⟩), .pointer (some ⟨tb, 0, none⟩), .int .i64 (i : Nat)] w fun e w' => e = .returned (.tuple #[]) ∧ RefP w' A tb (k + 6) n S i (t + 1) (nx.set i (hd : Nat)) fa ∧ Byd tb A.all w w' := by
  refine (ref_push H.rp hk h1 h2 ht1).mono ?_
  rintro e w' ⟨rfl, hR, o⟩
  exact ⟨rfl, H.of_rp hR o, o.mono (by simp +contextual [RP.all])⟩

set_option maxHeartbeats 1000000 in
theorem ref_take_full {xa xb xc xd l : Int} (H : RefP w A tb k n S 0 t nx fa) (hk : k ≤ 700000) :
    Calls Tryz.prog 20 #[.pointer (some ⟨A.r, 0, none⟩), .pointer (some ⟨tb, 0, none⟩), .agg #[.int .i64 xa, .int .i64 xb, .int .i64 xc, .int .i64 xd], .int .i64 l] w fun e w' => e = .returned (.tuple #[.int .i64 0, .int .i64 102]) ∧ RefP w' A tb (k + 20) n S 0 t nx fa ∧ Byd tb A.all w w' := by
  have H0 := Lib.hid H
  clear H
  go_enter Tryz.func20, Tryz.ntmps20
  go_upto_region 1 with fail
  refine wp_name (fun w1 => RefP w1 A tb k n S 0 t nx fa ∧ Byd tb A.all w w1) ⟨H0.out.plain (Only.alloc _ _ _), Byd.plain H0.out (Only.alloc _ _ _)⟩ ?_
  rintro w1 ⟨hP, hX⟩
  have HP1 := Lib.hid (And.intro hP hX)
  obtain ⟨c0, c1, c2, c3, c4, c5⟩ := hP.q.c
  have HPOP := Lib.hid (ref_pop_none hP.rp (by omega))
  clear hP hX
  go_wp2_with fail
  refine HPOP.out.mono ?_
  rintro e w2 ⟨rfl, hR, hX⟩
  have hP2 := HP1.out.1.of_rp hR (hX.mono (by simp))
  have t2 := hP2.m
  have HP2 := Lib.hid (And.intro hP2 (HP1.out.2.trans hX.all))
  clear hP2 hR hX c0 c1 c2 c3 c4 c5 HPOP HP1
  go_wp2_with fail
  go_ret2
  exact ⟨rfl, HP2.out.1.mono (by omega), HP2.out.2⟩

set_option maxHeartbeats 1000000 in
theorem ref_give_bad {h : Int} (H : RefP w A tb k n S hd t nx fa) (hk : k ≤ 700000) (hb : ¬ isHandle n h) :
    Calls Tryz.prog 21 #[.pointer (some ⟨A.r, 0, none⟩), .pointer (some ⟨tb, 0, none⟩), .int .i64 h] w fun e w' => e = .returned (.int .i64 103) ∧ RefP w' A tb (k + 20) n S hd t nx fa ∧ Byd tb A.all w w' := by
  have hm := H.q.q.many
  obtain ⟨c0, c1, c2, c3, c4, c5⟩ := H.q.c
  have HB := Lib.hid (fun w c3 => ref_is_handle (A := A) (n := n) (h := h) (b := false) ⟨fun e => Bool.noConfusion e, fun e => absurd e hb⟩ w hm.2 c3)
  have HL := Lib.hid (th_line H.th (by omega))
  have H' := Lib.hid H
  clear H hb
  go_enter Tryz.func21, Tryz.ntmps21
  go_wp2_with fail
  refine (HB.out _ c3).mono ?_
  rintro e w' ⟨rfl, rfl⟩
  go_wp2_with fail
  refine HL.out.mono ?_
  rintro e w1 ⟨rfl, hT, hX⟩
  have HP := Lib.hid (And.intro ((H'.out.step hT hX).mono (k' := k + 20) (by omega)) hX)
  clear hT hX c0 c1 c2 c3 c4 c5
  go_wp2_with fail
  go_ret
  exact ⟨rfl, HP.out.1, HP.out.2.all⟩

set_option maxHeartbeats 1000000 in
theorem ref_give_gone {h : Int} {i : Nat} (H : RefP w A tb k n S hd t nx fa) (hk : k ≤ 700000) (h1 : 1 ≤ i) (h2 : i ≤ n) (hi : idxOf h = i) (hg : tagOf h % 2 = 1) (hS : (S i).gen ≠ tagOf h) :
    Calls Tryz.prog 21 #[.pointer (some ⟨A.r, 0, none⟩), .pointer (some ⟨tb, 0, none⟩), .int .i64 h] w fun e w' => e = .returned (.int .i64 104) ∧ RefP w' A tb (k + 20) n S hd t nx fa ∧ Byd tb A.all w w' := by
  have hm := H.q.q.many
  have htr := tagOf_range h
  obtain ⟨c0, c1, c2, c3, c4, c5⟩ := H.q.c
  have HB := Lib.hid (fun w c3 => ref_is_handle (A := A) (n := n) (h := h) (b := true) ⟨fun _ => ⟨by omega, by omega, hg⟩, fun _ => rfl⟩ w hm.2 c3)
  have HI := Lib.hid (fun w => ref_index h w)
  have HT := Lib.hid (fun w => ref_tg h w)
  have HC := Lib.hid (ref_gen_cas_miss H h2 (by omega) (tagOf h + 1) hS)
  rw [hi] at HI
  generalize tagOf h = g at *
  obtain ⟨hg0, hg1⟩ := htr
  have hw1 : IntKind.i64.wrap ((n : Int) + 2 + (i : Int)) = ((n + 2 + i : Nat) : Int) := by rw [IntWalk.i64_in _ ⟨by omega, by omega⟩]; omega
  have hw2 : IntKind.i64.wrap (g + 1) = g + 1 := IntWalk.i64_in _ ⟨by omega, by omega⟩
  clear H hi hS
  go_enter Tryz.func21, Tryz.ntmps21
  go_wp2_with fail
  refine (HB.out _ c3).mono ?_
  rintro e w' ⟨rfl, rfl⟩
  go_wp2_with fail
  refine (HI.out _).mono ?_
  rintro e w' ⟨rfl, rfl⟩
  go_wp2_with fail
  refine (HT.out _).mono ?_
  rintro e w' ⟨rfl, rfl⟩
  go_wp2_with fail
  refine HC.out.mono ?_
  rintro e w1 ⟨rfl, hP, hX⟩
  have t2 := hP.m
  have HP := Lib.hid (And.intro (hP.mono (k' := k + 20) (by omega)) hX)
  clear hP hX c0 c1 c2 c3 c4 c5
  go_wp2_with fail
  go_ret
  exact ⟨rfl, HP.out.1, HP.out.2⟩

set_option maxHeartbeats 1000000 in
theorem ref_give {h : Int} {i : Nat} (H : RefP w A tb k n S hd t nx fa) (hk : k ≤ 700000) (h1 : 1 ≤ i) (h2 : i ≤ n) (hi : idxOf h = i) (hg : tagOf h % 2 = 1) (hS : (S i).gen = tagOf h) (ht1 : t + 1 ≤ 1000000000000) :
    Calls Tryz.prog 21 #[.pointer (some ⟨A.r, 0, none⟩), .pointer (some ⟨tb, 0, none⟩), .int .i64 h] w fun e w' => e = .returned (.int .i64 0) ∧ RefP w' A tb (k + 20) n (upS S i ⟨tagOf h + 1, -7777777, -7777777, -7777777, -7777777, -7777777, -7777777⟩) i (t + 1) (nx.set i (hd : Nat)) fa ∧ Byd tb A.all w w' := by
  have hm := H.q.q.many
  have htr := tagOf_range h
  obtain ⟨c0, c1, c2, c3, c4, c5⟩ := H.q.c
  have HB := Lib.hid (fun w c3 => ref_is_handle (A := A) (n := n) (h := h) (b := true) ⟨fun _ => ⟨by omega, by omega, hg⟩, fun _ => rfl⟩ w hm.2 c3)
  have HI := Lib.hid (fun w => ref_index h w)
  have HT := Lib.hid (fun w => ref_tg h w)
  have HC := Lib.hid (ref_gen_cas H h2 (by omega) (tagOf h + 1) hS)
  rw [hi] at HI
  generalize tagOf h = g at *
  obtain ⟨hg0, hg1⟩ := htr
  have hw1 : IntKind.i64.wrap ((n : Int) + 2 + (i : Int)) = ((n + 2 + i : Nat) : Int) := by rw [IntWalk.i64_in _ ⟨by omega, by omega⟩]; omega
  have hw2 : IntKind.i64.wrap (g + 1) = g + 1 := IntWalk.i64_in _ ⟨by omega, by omega⟩
  obtain ⟨S5, hS5⟩ : ∃ S5, upS S i ⟨g + 1, -7777777, -7777777, -7777777, -7777777, -7777777, -7777777⟩ = S5 := ⟨_, rfl⟩
  rw [hS5]
  have HS5 := Lib.hid hS5
  clear H hi hS hS5
  go_enter Tryz.func21, Tryz.ntmps21
  go_wp2_with fail
  refine (HB.out _ c3).mono ?_
  rintro e w' ⟨rfl, rfl⟩
  go_wp2_with fail
  refine (HI.out _).mono ?_
  rintro e w' ⟨rfl, rfl⟩
  go_wp2_with fail
  refine (HT.out _).mono ?_
  rintro e w' ⟨rfl, rfl⟩
  go_wp2_with fail
  refine HC.out.mono ?_
  rintro e w1 ⟨rfl, hP, hX⟩
  obtain ⟨S4, hS4⟩ : ∃ S4, upS S i { S i with gen := g + 1 } = S4 := ⟨_, rfl⟩
  rw [hS4] at hP
  have HS4 := Lib.hid hS4
  have t2 := hP.m
  have HP := Lib.hid (And.intro hP hX)
  clear hP hX hS4 c0 c1 c2 c3 c4 c5
  go_wp2_with fail
  refine (th_fresh HP.out.1.th (by omega)).mono ?_
  rintro e w2 ⟨rfl, hT, hX⟩
  have HP2 := Lib.hid (And.intro (HP.out.1.step hT hX) (HP.out.2.trans hX.all))
  clear hT hX HP
  go_upto_region 13 with fail
  refine wp_name (fun w3 => RefP w3 A tb (k + 3) n S4 hd t nx fa ∧ Byd tb A.all w w3 ∧ Blk w3 w2.heap.size #[.int .i64 (-7777777), .int .i64 (-7777777), .int .i64 (-7777777), .int .i64 (-7777777)] 43) ?_ ?_
  · refine ⟨HP2.out.1.plain ?_, HP2.out.2.trans (Byd.plain HP2.out.1 ?_), ?_⟩
    · exact Only.alloc _ _ _
    · exact Only.alloc _ _ _
    · exact Blk.new _ _ _
  rintro w3 ⟨hP3, hX3, hb3⟩
  obtain ⟨bx, hbx⟩ : ∃ bx, w2.heap.size = bx := ⟨_, rfl⟩
  rw [hbx] at hb3 ⊢
  obtain ⟨c0, c1, c2, c3, c4, c5⟩ := hP3.q.c
  have b0 : w3.cell? ⟨bx, 0, none⟩ = some (.int .i64 (-7777777)) := hb3.cell 0 rfl
  have b1 : w3.cell? ⟨bx, 1, none⟩ = some (.int .i64 (-7777777)) := hb3.cell 1 rfl
  have b2 : w3.cell? ⟨bx, 2, none⟩ = some (.int .i64 (-7777777)) := hb3.cell 2 rfl
  have b3 : w3.cell? ⟨bx, 3, none⟩ = some (.int .i64 (-7777777)) := hb3.cell 3 rfl
  have f0 := hP3.q.row.free (i * 7)
  have f1 := hP3.q.row.free (i * 7 + 1)
  have f2 := hP3.q.row.free (i * 7 + 2)
  have f3 := hP3.q.row.free (i * 7 + 3)
  have f4 := hP3.q.row.free (i * 7 + 4)
  have f5 := hP3.q.row.free (i * 7 + 5)
  have f6 := hP3.q.row.free (i * 7 + 6)
  have s0 : w3.cell? ⟨A.sb, i * 7, none⟩ = some (.int .i64 ((S4 i).gd 0)) := hP3.slotC 0 (by omega) h2
  have s1 := hP3.slotC 1 (by omega) h2
  have s2 := hP3.slotC 2 (by omega) h2
  have s3 := hP3.slotC 3 (by omega) h2
  have s4 := hP3.slotC 4 (by omega) h2
  have s5 := hP3.slotC 5 (by omega) h2
  have s6 := hP3.slotC 6 (by omega) h2
  have HP3 := Lib.hid (And.intro hP3 hX3)
  have hil : (i : Int) < (n : Int) + 1 := by omega
  clear hP3 hX3 hb3 HP2 hbx
  go_region
  go_upto_region 14 with fail
  have HE5 : Hid (upS S4 i ⟨g + 1, -7777777, -7777777, -7777777, -7777777, -7777777, -7777777⟩ = S5) := Lib.hid (by rw [← HS4.out, upS_upS, HS5.out])
  clear s0 s1 s2 s3 s4 s5 s6 f0 f1 f2 f3 f4 f5 f6 b0 b1 b2 b3 c0 c1 c2 c3 c4 c5
  refine wp_name (fun w5 => RefP w5 A tb (k + 3) n S5 hd t nx fa ∧ Byd tb A.all w w5) (by
    have h5 := HP3.out.1.put7 ⟨g + 1, -7777777, -7777777, -7777777, -7777777, -7777777, -7777777⟩ (i := i) (by rw [← HS4.out, upS_same]) h2 (W := w3) (Only.refl _ _) rfl
    rw [HE5.out] at h5
    exact ⟨h5.1.plain (Only.drew _ _), (HP3.out.2.trans h5.2).trans (Byd.plain h5.1 (Only.drew _ _))⟩) ?_
  clear HP3 HE5 HS4
  rintro w5 ⟨hP5, hX5⟩
  obtain ⟨c0, c1, c2, c3, c4, c5⟩ := hP5.q.c
  have HPU := Lib.hid (ref_push_p hP5 (by omega) h1 h2 ht1)
  have HX5 := Lib.hid hX5
  clear hP5 hX5
  go_wp2_with fail
  refine HPU.out.mono ?_
  rintro e w6 ⟨rfl, hP6, hX6⟩
  have HP6 := Lib.hid (And.intro (hP6.mono (k' := k + 20) (by omega)) (HX5.out.trans hX6))
  clear hP6 hX6 c0 c1 c2 c3 c4 c5
  go_wp2_with fail
  go_ret
  exact ⟨rfl, HP6.out.1, HP6.out.2⟩

set_option maxHeartbeats 1000000 in
theorem ref_back_bad {i gen : Int} (H : RefP w A tb k n S hd t nx fa) (hk : k ≤ 700000) (hb : i < 1 ∨ (n : Int) < i ∨ gen < 0 ∨ gen % 2 = 1) :
    Calls Tryz.prog 33 #[.pointer (some ⟨A.r, 0, none⟩), .pointer (some ⟨tb, 0, none⟩), .int .i64 i, .int .i64 gen] w fun e w' => e = .returned (.int .i64 103) ∧ RefP w' A tb (k + 20) n S hd t nx fa ∧ Byd tb A.all w w' := by
  have hm := H.q.q.many
  obtain ⟨c0, c1, c2, c3, c4, c5⟩ := H.q.c
  have HL := Lib.hid (th_line H.th (by omega))
  have H' := Lib.hid H
  clear H
  by_cases h1 : i < 1
  · have h1b : (i < 1) := h1
    clear hb
    go_enter Tryz.func33, Tryz.ntmps33
    go_wp2_with fail
    refine HL.out.mono ?_
    rintro e w1 ⟨rfl, hT, hX⟩
    have HP := Lib.hid (And.intro ((H'.out.step hT hX).mono (k' := k + 20) (by omega)) hX)
    clear hT hX c0 c1 c2 c3 c4 c5
    go_wp2_with fail
    go_ret
    exact ⟨rfl, HP.out.1, HP.out.2.all⟩
  · by_cases h2 : (n : Int) < i
    · clear hb
      go_enter Tryz.func33, Tryz.ntmps33
      go_wp2_with fail
      refine HL.out.mono ?_
      rintro e w1 ⟨rfl, hT, hX⟩
      have HP := Lib.hid (And.intro ((H'.out.step hT hX).mono (k' := k + 20) (by omega)) hX)
      clear hT hX c0 c1 c2 c3 c4 c5
      go_wp2_with fail
      go_ret
      exact ⟨rfl, HP.out.1, HP.out.2.all⟩
    · by_cases h3 : gen < 0
      · clear hb
        go_enter Tryz.func33, Tryz.ntmps33
        go_wp2_with fail
        refine HL.out.mono ?_
        rintro e w1 ⟨rfl, hT, hX⟩
        have HP := Lib.hid (And.intro ((H'.out.step hT hX).mono (k' := k + 20) (by omega)) hX)
        clear hT hX c0 c1 c2 c3 c4 c5
        go_wp2_with fail
        go_ret
        exact ⟨rfl, HP.out.1, HP.out.2.all⟩
      · have h4 : gen.tmod 2 = 1 := by
          rcases hb with h | h | h | h
          · exact absurd h h1
          · exact absurd h h2
          · exact absurd h h3
          · rw [Int.tmod_eq_emod_of_nonneg (by omega)]
            exact h
        clear hb
        go_enter Tryz.func33, Tryz.ntmps33
        go_wp2_with fail
        refine HL.out.mono ?_
        rintro e w1 ⟨rfl, hT, hX⟩
        have HP := Lib.hid (And.intro ((H'.out.step hT hX).mono (k' := k + 20) (by omega)) hX)
        clear hT hX c0 c1 c2 c3 c4 c5
        go_wp2_with fail
        go_ret
        exact ⟨rfl, HP.out.1, HP.out.2.all⟩

set_option maxHeartbeats 1000000 in
theorem ref_back_gone {i : Nat} {gen : Int} (H : RefP w A tb k n S hd t nx fa) (hk : k ≤ 700000) (h1 : 1 ≤ i) (h2 : i ≤ n) (h3 : 0 ≤ gen) (h4 : gen % 2 = 0) (hS : (S i).gen ≠ gen) (hg : -9223372036854775808 ≤ gen ∧ gen ≤ 9223372036854775807) :
    Calls Tryz.prog 33 #[.pointer (some ⟨A.r, 0, none⟩), .pointer (some ⟨tb, 0, none⟩), .int .i64 (i : Nat), .int .i64 gen] w fun e w' => e = .returned (.int .i64 104) ∧ RefP w' A tb (k + 20) n S hd t nx fa ∧ Byd tb A.all w w' := by
  have hm := H.q.q.many
  obtain ⟨c0, c1, c2, c3, c4, c5⟩ := H.q.c
  have h5 : gen.tmod 2 = 0 := by rw [Int.tmod_eq_emod_of_nonneg h3]; exact h4
  obtain ⟨gn, hgn⟩ : ∃ gn, IntKind.i64.wrap (gen + 2) = gn := ⟨_, rfl⟩
  have HC := Lib.hid (ref_gen_cas_miss H h2 (by omega) gn hS)
  have hw1 : IntKind.i64.wrap ((n : Int) + 2 + (i : Int)) = ((n + 2 + i : Nat) : Int) := by rw [IntWalk.i64_in _ ⟨by omega, by omega⟩]; omega
  clear H hS h4 hg
  go_enter Tryz.func33, Tryz.ntmps33
  go_wp2_with fail
  refine HC.out.mono ?_
  rintro e w1 ⟨rfl, hP, hX⟩
  have t2 := hP.m
  have HP := Lib.hid (And.intro (hP.mono (k' := k + 20) (by omega)) hX)
  clear hP hX c0 c1 c2 c3 c4 c5
  go_wp2_with fail
  go_ret
  exact ⟨rfl, HP.out.1, HP.out.2⟩

set_option maxHeartbeats 1000000 in
theorem ref_back {i : Nat} {gen : Int} (H : RefP w A tb k n S hd t nx fa) (hk : k ≤ 700000) (h1 : 1 ≤ i) (h2 : i ≤ n) (h3 : 0 ≤ gen) (h4 : gen % 2 = 0) (hS : (S i).gen = gen) (hg : gen ≤ 1000000000000) (ht1 : t + 1 ≤ 1000000000000) :
    Calls Tryz.prog 33 #[.pointer (some ⟨A.r, 0, none⟩), .pointer (some ⟨tb, 0, none⟩), .int .i64 (i : Nat), .int .i64 gen] w fun e w' => e = .returned (.int .i64 0) ∧ RefP w' A tb (k + 20) n (upS S i { S i with gen := gen + 2 }) i (t + 1) (nx.set i (hd : Nat)) fa ∧ Byd tb A.all w w' := by
  have hm := H.q.q.many
  obtain ⟨c0, c1, c2, c3, c4, c5⟩ := H.q.c
  have h5 : gen.tmod 2 = 0 := by rw [Int.tmod_eq_emod_of_nonneg h3]; exact h4
  have hgn : IntKind.i64.wrap (gen + 2) = gen + 2 := IntWalk.i64_in _ ⟨by omega, by omega⟩
  have HC := Lib.hid (ref_gen_cas H h2 (by omega) (gen + 2) hS)
  have hw1 : IntKind.i64.wrap ((n : Int) + 2 + (i : Int)) = ((n + 2 + i : Nat) : Int) := by rw [IntWalk.i64_in _ ⟨by omega, by omega⟩]; omega
  obtain ⟨S5, hS5⟩ : ∃ S5, upS S i { S i with gen := gen + 2 } = S5 := ⟨_, rfl⟩
  rw [hS5] at HC ⊢
  clear H hS h4 hg hS5
  go_enter Tryz.func33, Tryz.ntmps33
  go_wp2_with fail
  refine HC.out.mono ?_
  rintro e w1 ⟨rfl, hP, hX⟩
  have t2 := hP.m
  obtain ⟨c0, c1, c2, c3, c4, c5⟩ := hP.q.c
  have HPU := Lib.hid (ref_push_p hP (by omega) h1 h2 ht1)
  have HP := Lib.hid hX
  clear hP hX
  go_wp2_with fail
  refine HPU.out.mono ?_
  rintro e w6 ⟨rfl, hP6, hX6⟩
  have HP6 := Lib.hid (And.intro (hP6.mono (k' := k + 20) (by omega)) (HP.out.trans hX6))
  clear hP6 hX6 c0 c1 c2 c3 c4 c5 t2
  go_wp2_with fail
  go_ret
  exact ⟨rfl, HP6.out.1, HP6.out.2⟩

end

end Go.Proofs.YtpknnamficegbaaGreatDoor

namespace Go.Proofs.YtpknnamficegbaaGreatDoor
open Go.RowKit

section
variable {w w' : World} {A : RP} {tb k n hd : Nat} {S : Nat → Sl} {t : Int} {nx : List Int} {fa : Int}

theorem ThAt.off {mb : Nat} {L : List Nat} (h : ThAt w tb mb k) (o : Only L w w') (hL : ∀ b, b ∈ L → NotTh w tb b) : ThAt w' tb mb k := by
  obtain ⟨own, log, L', left, hB, hO, hr⟩ := h
  have e1 : logB w tb = log.ownBlock := by unfold logB; rw [hB.cell 4 rfl]; rfl
  exact ⟨own, log, L', left, hB.only o (fun hm => (hL _ hm).1 rfl), ownsRow_only hO o (fun b hb hm => (hL b hm).2 (by rw [e1]; exact hb)), hr⟩

theorem Byd.past {L B : List Nat} {a b c : World} (h : Byd tb B a b) (o : Only L b c) (hl : tb < b.heap.size) (ht : tb ∉ L) (hL : ∀ x, x ∈ L → a.heap.size ≤ x) : Byd tb B a c :=
  ⟨o.os.trans h.os, o.tape.trans h.tape, o.output.trans h.output, Nat.le_trans h.size o.size, h.low,
    fun i hi hn h1 h2 => (o.block i (Nat.lt_of_lt_of_le hi h.size) (fun hm => by have := hL i hm; omega)).trans (h.keep i hi hn h1 h2),
    fun i hi e => h.log i hi (by rw [← logB_only o hl ht]; exact e)⟩

theorem set4 (W : World) (rb : Nat) (v0 v1 v2 v3 : Value) : Only [rb] W ((((W.setCell ⟨rb, 0, none⟩ v0).setCell ⟨rb, 1, none⟩ v1).setCell ⟨rb, 2, none⟩ v2).setCell ⟨rb, 3, none⟩ v3) :=
  (((Only.setCell _ (a := ⟨rb, 0, none⟩) (by simp) v0).trans (Only.setCell _ (a := ⟨rb, 1, none⟩) (by simp) v1)).trans (Only.setCell _ (a := ⟨rb, 2, none⟩) (by simp) v2)).trans (Only.setCell _ (a := ⟨rb, 3, none⟩) (by simp) v3)

theorem RefP.off4 {W0 : World} {rb : Nat} (H : RefP w A tb k n S hd t nx fa) (hX : Byd tb A.all W0 w) (hN : NotTh w tb rb) (hr : W0.heap.size ≤ rb) (hl : tb < rb) (o : Only [rb] w w') : RefP w' A tb k n S hd t nx fa ∧ Byd tb A.all W0 w' :=
  ⟨⟨H.q.only o (fun b hb => by have := H.mem_lt hb; simp; omega), H.th.off o (by simp; exact hN), H.low⟩, hX.past o H.th.lt (by simp; omega) (by simp; exact hr)⟩

/-- What stands while Read keeps what it has read. -/
def ReadSt (W0 : World) (A : RP) (tb k n : Nat) (S : Nat → Sl) (hd : Nat) (t : Int) (nx : List Int) (fa : Int) (rb cb : Nat) (zs vs : Array Value) (j : Nat) (W : World) : Prop :=
  RefP W A tb (k + j) n S hd t nx fa ∧ Byd tb A.all W0 W ∧ Blk W rb zs 43 ∧ NotTh W tb rb ∧ Blk W cb vs 43 ∧ NotTh W tb cb

theorem ReadSt.kept {W0 W : World} {rb cb j : Nat} {zs vs : Array Value} {v : Int} (h : ReadSt W0 A tb k n S hd t nx fa rb cb zs vs j W) (hk : k + j ≤ 900000) :
    Calls Tryz.prog 76 #[.pointer (some ⟨tb, 0, none⟩), .int .i64 v] W fun e W' => e = .returned (.int .i64 v) ∧ ReadSt W0 A tb k n S hd t nx fa rb cb zs vs (j + 1) W' := by
  obtain ⟨h1, h2, h3, h4, h5, h6⟩ := h
  refine (th_kept (v := v) h1.th hk).mono ?_
  rintro e W' ⟨rfl, hT, hX⟩
  have a := hX.blk h3 (by simp) h4
  have b := hX.blk h5 (by simp) h6
  exact ⟨rfl, h1.step hT hX, h2.trans hX.all, a.1, a.2, b.1, b.2⟩

theorem not_th_new {mb : Nat} (h : ThAt w tb mb k) (o : Only [] w w') : NotTh w' tb w.heap.size :=
  ⟨by have := h.lt; omega, fun e => by rw [logB_only o h.lt (by simp)] at e; exact absurd e h.log_lt⟩

theorem ReadSt.start {W0 W W' : World} {rb : Nat} {zs vs : Array Value} (hP : RefP W A tb k n S hd t nx fa) (hX : Byd tb A.all W0 W) (hB : Blk W rb zs 43) (hN : NotTh W tb rb) (o : Only [] W W') (hC : Blk W' W.heap.size vs 43) : ReadSt W0 A tb k n S hd t nx fa rb W.heap.size zs vs 0 W' :=
  ⟨hP.plain o, hX.trans (Byd.plain hP o), hB.only o (by simp), ⟨hN.1, by rw [logB_only o hP.th.lt (by simp)]; exact hN.2⟩, hC, not_th_new hP.th o⟩

set_option maxHeartbeats 2000000 in
theorem ref_read_err {h err fa' : Int} (H : RefP w A tb k n S hd t nx fa) (hk : k ≤ 700000) (M : DMisses A n S hd t nx fa h err fa') (he : (err != 0) = true) :
    Calls Tryz.prog 22 #[.pointer (some ⟨A.r, 0, none⟩), .pointer (some ⟨tb, 0, none⟩), .int .i64 h] w fun e w' => e = .returned (.tuple #[.agg #[.int .i64 0, .int .i64 0, .int .i64 0, .int .i64 0], .int .i64 err]) ∧ RefP w' A tb (k + 20) n S hd t nx fa' ∧ Byd tb A.all w w' := by
  have HM := Lib.hid M
  have HH := Lib.hid H
  clear M H
  go_enter Tryz.func22, Tryz.ntmps22
  go_upto_region 1 with fail
  refine wp_name (fun w1 => RefP w1 A tb k n S hd t nx fa ∧ Byd tb A.all w w1 ∧ Blk w1 w.heap.size #[.int .i64 0, .int .i64 0, .int .i64 0, .int .i64 0] 43 ∧ NotTh w1 tb w.heap.size) ⟨HH.out.plain (Only.alloc _ _ _), Byd.plain HH.out (Only.alloc _ _ _), Blk.new _ _ _, not_th_new HH.out.th (Only.alloc _ _ _)⟩ ?_
  have hlt := HH.out.th.lt
  obtain ⟨rb, hrb⟩ : ∃ rb, w.heap.size = rb := ⟨_, rfl⟩
  have HRB := Lib.hid hrb
  rw [hrb] at hlt ⊢
  rintro w1 ⟨hP, hX, hB, hN⟩
  have HM1 := Lib.hid (HM.out w1 tb k (by omega) hP)
  have HP1 := Lib.hid (And.intro hP (And.intro hX (And.intro hB hN)))
  clear hP hX hB hN hrb HM
  go_wp2_with fail
  refine HM1.out.mono ?_
  rintro e w2 ⟨rfl, hP, hX⟩
  have hB := hX.blk HP1.out.2.2.1 (fun hm => by have := HP1.out.1.mem_lt hm; omega) HP1.out.2.2.2
  have r0 := hB.1.cell 0 rfl
  have r1 := hB.1.cell 1 rfl
  have r2 := hB.1.cell 2 rfl
  have r3 := hB.1.cell 3 rfl
  have g0 := hB.1.free 0
  have g1 := hB.1.free 1
  have g2 := hB.1.free 2
  have g3 := hB.1.free 3
  have HP2 := Lib.hid (And.intro (hP.mono (k' := k + 20) (by omega)) (And.intro (HP1.out.2.1.trans hX) hB))
  clear hP hX hB HM1 HP1
  go_wp2_with fail
  have hF := HP2.out.1.off4 HP2.out.2.1 HP2.out.2.2.2 (Nat.le_of_eq HRB.out) hlt (set4 _ rb (.int .i64 0) (.int .i64 0) (.int .i64 0) (.int .i64 0))
  refine bodyPost_ret (v := .tuple #[.agg #[.int .i64 0, .int .i64 0, .int .i64 0, .int .i64 0], .int .i64 err]) (by simp [results, Tryz.results22, go_sem, r0, r1, r2, r3]) rfl ⟨rfl, hF.1, hF.2⟩

set_option maxHeartbeats 2000000 in
theorem ref_read {h : Int} {i : Nat} (H : RefP w A tb k n S hd t nx fa) (hk : k ≤ 700000) (h2 : i ≤ n) (M : DMeets A n S hd t nx fa h i) :
    Calls Tryz.prog 22 #[.pointer (some ⟨A.r, 0, none⟩), .pointer (some ⟨tb, 0, none⟩), .int .i64 h] w fun e w' => e = .returned (.tuple #[.agg #[.int .i64 (S i).a, .int .i64 (S i).b, .int .i64 (S i).c, .int .i64 (S i).d], .int .i64 0]) ∧ RefP w' A tb (k + 20) n S hd t nx fa ∧ Byd tb A.all w w' := by
  have hm := H.q.q.many
  have HM := Lib.hid M
  have HH := Lib.hid H
  obtain ⟨xa, hxa⟩ : ∃ x, (S i).a = x := ⟨_, rfl⟩
  obtain ⟨xb, hxb⟩ : ∃ x, (S i).b = x := ⟨_, rfl⟩
  obtain ⟨xc, hxc⟩ : ∃ x, (S i).c = x := ⟨_, rfl⟩
  obtain ⟨xd, hxd⟩ : ∃ x, (S i).d = x := ⟨_, rfl⟩
  rw [hxa, hxb, hxc, hxd]
  have HXX := Lib.hid (And.intro hxa (And.intro hxb (And.intro hxc hxd)))
  clear M H hxa hxb hxc hxd
  go_enter Tryz.func22, Tryz.ntmps22
  go_upto_region 1 with fail
  refine wp_name (fun w1 => RefP w1 A tb k n S hd t nx fa ∧ Byd tb A.all w w1 ∧ Blk w1 w.heap.size #[.int .i64 0, .int .i64 0, .int .i64 0, .int .i64 0] 43 ∧ NotTh w1 tb w.heap.size) ⟨HH.out.plain (Only.alloc _ _ _), Byd.plain HH.out (Only.alloc _ _ _), Blk.new _ _ _, not_th_new HH.out.th (Only.alloc _ _ _)⟩ ?_
  have hlt := HH.out.th.lt
  obtain ⟨rb, hrb⟩ : ∃ rb, w.heap.size = rb := ⟨_, rfl⟩
  have HRB := Lib.hid hrb
  rw [hrb] at hlt ⊢
  rintro w1 ⟨hP, hX, hB, hN⟩
  have HM1 := Lib.hid (HM.out w1 tb k (by omega) hP)
  have HP1 := Lib.hid (And.intro hP (And.intro hX (And.intro hB hN)))
  clear hP hX hB hN hrb HM
  go_wp2_with fail
  refine HM1.out.mono ?_
  rintro e w2 ⟨rfl, hP, hX⟩
  have hB := hX.blk HP1.out.2.2.1 (fun hm => by have := HP1.out.1.mem_lt hm; omega) HP1.out.2.2.2
  have t2 := hP.m
  obtain ⟨c0, c1, c2, c3, c4, c5⟩ := hP.q.c
  have s1 := hP.slotC 1 (by omega) h2
  have s2 := hP.slotC 2 (by omega) h2
  have s3 := hP.slotC 3 (by omega) h2
  have s4 := hP.slotC 4 (by omega) h2
  rw [show (S i).gd 1 = (S i).a from rfl, HXX.out.1] at s1
  rw [show (S i).gd 2 = (S i).b from rfl, HXX.out.2.1] at s2
  rw [show (S i).gd 3 = (S i).c from rfl, HXX.out.2.2.1] at s3
  rw [show (S i).gd 4 = (S i).d from rfl, HXX.out.2.2.2] at s4
  have HP2 := Lib.hid (And.intro hP (And.intro (HP1.out.2.1.trans hX) hB))
  clear hP hX hB HM1 HP1 HXX
  have hil : (i : Int) < (n : Int) + 1 := by omega
  go_upto_region 5 with fail
  refine wp_name (fun w3 => ReadSt w A tb (k + 4) n S hd t nx fa rb w2.heap.size #[.int .i64 0, .int .i64 0, .int .i64 0, .int .i64 0] #[.int .i64 xa, .int .i64 xb, .int .i64 xc, .int .i64 xd] 0 w3.drew) (ReadSt.start HP2.out.1 HP2.out.2.1 HP2.out.2.2.1 HP2.out.2.2.2 ((Only.alloc _ _ _).trans (Only.drew _ _)) (Blk.new _ _ _)) ?_
  obtain ⟨cb, hcb⟩ : ∃ q, w2.heap.size = q := ⟨_, rfl⟩
  rw [hcb]
  intro w3 hSt
  have HKP := Lib.hid (fun j W v (h : ReadSt w A tb (k + 4) n S hd t nx fa rb cb #[.int .i64 0, .int .i64 0, .int .i64 0, .int .i64 0] #[.int .i64 xa, .int .i64 xb, .int .i64 xc, .int .i64 xd] j W) (hj : k + 4 + j ≤ 900000) => h.kept (v := v) hj)
  have HC : Hid (∀ j W, ReadSt w A tb (k + 4) n S hd t nx fa rb cb #[.int .i64 0, .int .i64 0, .int .i64 0, .int .i64 0] #[.int .i64 xa, .int .i64 xb, .int .i64 xc, .int .i64 xd] j W → W.cell? ⟨cb, 0, none⟩ = some (.int .i64 xa) ∧ W.cell? ⟨cb, 1, none⟩ = some (.int .i64 xb) ∧ W.cell? ⟨cb, 2, none⟩ = some (.int .i64 xc) ∧ W.cell? ⟨cb, 3, none⟩ = some (.int .i64 xd)) := Lib.hid (fun j W h => ⟨h.2.2.2.2.1.cell 0 rfl, h.2.2.2.2.1.cell 1 rfl, h.2.2.2.2.1.cell 2 rfl, h.2.2.2.2.1.cell 3 rfl⟩)
  have HZ : Hid (∀ j W, ReadSt w A tb (k + 4) n S hd t nx fa rb cb #[.int .i64 0, .int .i64 0, .int .i64 0, .int .i64 0] #[.int .i64 xa, .int .i64 xb, .int .i64 xc, .int .i64 xd] j W → W.cell? ⟨rb, 0, none⟩ = some (.int .i64 0) ∧ W.cell? ⟨rb, 1, none⟩ = some (.int .i64 0) ∧ W.cell? ⟨rb, 2, none⟩ = some (.int .i64 0) ∧ W.cell? ⟨rb, 3, none⟩ = some (.int .i64 0) ∧ W.frozen? ⟨rb, 0, none⟩ = false ∧ W.frozen? ⟨rb, 1, none⟩ = false ∧ W.frozen? ⟨rb, 2, none⟩ = false ∧ W.frozen? ⟨rb, 3, none⟩ = false) := Lib.hid (fun j W h => ⟨h.2.2.1.cell 0 rfl, h.2.2.1.cell 1 rfl, h.2.2.1.cell 2 rfl, h.2.2.1.cell 3 rfl, h.2.2.1.free 0, h.2.2.1.free 1, h.2.2.1.free 2, h.2.2.1.free 3⟩)
  have hne : cb ≠ rb := by have := HP2.out.2.2.1.lt; omega
  have HC2 : Hid (∀ j W, ReadSt w A tb (k + 4) n S hd t nx fa rb cb #[.int .i64 0, .int .i64 0, .int .i64 0, .int .i64 0] #[.int .i64 xa, .int .i64 xb, .int .i64 xc, .int .i64 xd] j W → ∀ v0 v1 v2 v3 : Value, ((((W.setCell ⟨rb, 0, none⟩ v0).setCell ⟨rb, 1, none⟩ v1).setCell ⟨rb, 2, none⟩ v2).setCell ⟨rb, 3, none⟩ v3).cell? ⟨cb, 0, none⟩ = some (.int .i64 xa) ∧ ((((W.setCell ⟨rb, 0, none⟩ v0).setCell ⟨rb, 1, none⟩ v1).setCell ⟨rb, 2, none⟩ v2).setCell ⟨rb, 3, none⟩ v3).cell? ⟨cb, 1, none⟩ = some (.int .i64 xb) ∧ ((((W.setCell ⟨rb, 0, none⟩ v0).setCell ⟨rb, 1, none⟩ v1).setCell ⟨rb, 2, none⟩ v2).setCell ⟨rb, 3, none⟩ v3).cell? ⟨cb, 2, none⟩ = some (.int .i64 xc) ∧ ((((W.setCell ⟨rb, 0, none⟩ v0).setCell ⟨rb, 1, none⟩ v1).setCell ⟨rb, 2, none⟩ v2).setCell ⟨rb, 3, none⟩ v3).cell? ⟨cb, 3, none⟩ = some (.int .i64 xd)) := Lib.hid (fun j W h v0 v1 v2 v3 => by
    have hb := (((h.2.2.2.2.1.set_other (a := ⟨rb, 0, none⟩) hne v0).set_other (a := ⟨rb, 1, none⟩) hne v1).set_other (a := ⟨rb, 2, none⟩) hne v2).set_other (a := ⟨rb, 3, none⟩) hne v3
    exact ⟨hb.cell 0 rfl, hb.cell 1 rfl, hb.cell 2 rfl, hb.cell 3 rfl⟩)
  clear c0 c1 c2 c3 c4 c5 s1 s2 s3 s4 t2 HP2 hcb
  have q0 := HC.out _ _ hSt
  go_region_held3 (fun W => W.cell? ⟨cb, 0, none⟩ = some (.int .i64 xa) ∧ W.cell? ⟨cb, 1, none⟩ = some (.int .i64 xb) ∧ W.cell? ⟨cb, 2, none⟩ = some (.int .i64 xc) ∧ W.cell? ⟨cb, 3, none⟩ = some (.int .i64 xd))
    (first | with_reducible exact q0 | with_reducible exact HC.out _ _ (by with_reducible assumption) | with_reducible exact HC2.out _ _ (by with_reducible assumption) _ _ _ _)
    (first | (go_at_call 76; refine (HKP.out _ _ _ (by with_reducible assumption) (by omega)).mono ?_; rintro e w4 ⟨rfl, hSt⟩; obtain ⟨z0, z1, z2, z3, g0, g1, g2, g3⟩ := HZ.out _ _ hSt))
  go_wp2_with fail
  have hF := (hSt.1.mono (k' := k + 20) (by omega)).off4 hSt.2.1 hSt.2.2.2.1 (Nat.le_of_eq HRB.out) hlt (set4 _ rb (.int .i64 xa) (.int .i64 xb) (.int .i64 xc) (.int .i64 xd))
  refine bodyPost_ret (v := .tuple #[.agg #[.int .i64 xa, .int .i64 xb, .int .i64 xc, .int .i64 xd], .int .i64 0]) (by simp [results, Tryz.results22, go_sem, z0, z1, z2, z3]) rfl ⟨rfl, hF.1, hF.2⟩

end

end Go.Proofs.YtpknnamficegbaaGreatDoor

namespace Go.Proofs.YtpknnamficegbaaGreatDoor
open Go.RowKit

section
variable {w w' : World} {A : RP} {tb k n hd : Nat} {S : Nat → Sl} {t : Int} {nx : List Int} {fa : Int}

set_option maxHeartbeats 400000 in
theorem ref_faults (H : RefQ w A n S hd t nx fa) : Calls Tryz.prog 39 #[.pointer (some ⟨A.r, 0, none⟩)] w fun e w' => e = .returned (.int .i64 fa) ∧ w = w' := by
  obtain ⟨c0, c1, c2, c3, c4, c5⟩ := H.c
  clear H
  go_enter Tryz.func39, Tryz.ntmps39
  go_wp2_with fail
  go_ret
  exact ⟨rfl, rfl⟩

set_option maxHeartbeats 400000 in
theorem ref_list (H : RefQ w A n S hd t nx fa) : Calls Tryz.prog 38 #[.pointer (some ⟨A.r, 0, none⟩)] w fun e w' => ∃ v, e = .returned v ∧ w'.ownsRow w.heap.size 3 1 v (trail n nx hd).length ((trail n nx hd).map fun x => Value.int .i64 (x : Nat)) ∧ Only [] w w' := by
  obtain ⟨c0, c1, c2, c3, c4, c5⟩ := H.c
  have HP := Lib.hid (ref_places H.q)
  generalize trail n nx hd = L at *
  clear H
  go_enter Tryz.func38, Tryz.ntmps38
  go_wp2_with fail
  refine HP.out.mono ?_
  rintro e w1 ⟨v, rfl, hown, hO⟩
  have HO := Lib.hid (And.intro hown hO)
  clear hown hO
  go_wp2_with fail
  go_ret
  exact ⟨_, rfl, HO.out⟩

set_option maxHeartbeats 2000000 in
theorem ref_slots (H : RefQ w A n S hd t nx fa) : Calls Tryz.prog 36 #[.pointer (some ⟨A.r, 0, none⟩)] w fun e w' => ∃ v, e = .returned v ∧ w'.ownsRow w.heap.size 64 7 v n (slotsCells S n) ∧ Only [] w w' := by
  have hm := H.q.many
  obtain ⟨i0, hi0, hz0, hz1, hz2⟩ := info_parts info_Slot
  have HI0 := Lib.hid (And.intro hi0 (And.intro hz0 (And.intro hz1 hz2)))
  have HH := Lib.hid H
  clear H hi0 hz0 hz1 hz2
  go_enter Tryz.func36, Tryz.ntmps36
  go_wp2_with fail
  go_loopg [3, 4] n (fun g s3 s4 wr => ∃ k : Nat, k + g = n ∧ s4 = .int .i64 ((k : Int) + 1) ∧ wr.ownsRow w.heap.size 64 7 s3 k (slotsCells S k) ∧ Only [] w wr)
  case atStart => exact ⟨0, by omega, rfl, World.ownsRow_nil _ _ _ _, Only.refl _ _⟩
  case round =>
    obtain ⟨k, hk, rfl, hown, hO⟩ := hrel
    obtain ⟨ad, cp, rfl⟩ := own_slice_any hown
    have hP := HH.out.plain hO
    obtain ⟨c0, c1, c2, c3, c4, c5⟩ := hP.c
    have hsz := hO.size
    have HK := Lib.hid hk
    have HOWN := Lib.hid hown
    have HOO := Lib.hid hO
    by_cases hkn : k < n
    · have hki : (k : Int) + 1 < (n : Int) + 1 := by omega
      have hk2 : k ≤ n ∧ n ≤ 4096 := by omega
      obtain ⟨hk3, hk4⟩ := hk2
      have htn : ((k : Int) + 1).toNat = k + 1 := by omega
      have hr := hP.row
      have g0 : wr.cell? ⟨A.sb, (k + 1) * 7, none⟩ = some (.int .i64 0) := hr.slotD (k + 1) 0 (by omega) (slot_room (by omega))
      have g1 : wr.cell? ⟨A.sb, (k + 1) * 7 + 1, none⟩ = some (.int .i64 (S (k + 1)).a) := hr.slotD (k + 1) 1 (by omega) (slot_room (by omega))
      have g2 : wr.cell? ⟨A.sb, (k + 1) * 7 + 2, none⟩ = some (.int .i64 (S (k + 1)).b) := hr.slotD (k + 1) 2 (by omega) (slot_room (by omega))
      have g3 : wr.cell? ⟨A.sb, (k + 1) * 7 + 3, none⟩ = some (.int .i64 (S (k + 1)).c) := hr.slotD (k + 1) 3 (by omega) (slot_room (by omega))
      have g4 : wr.cell? ⟨A.sb, (k + 1) * 7 + 4, none⟩ = some (.int .i64 (S (k + 1)).d) := hr.slotD (k + 1) 4 (by omega) (slot_room (by omega))
      have g5 : wr.cell? ⟨A.sb, (k + 1) * 7 + 5, none⟩ = some (.int .i64 (S (k + 1)).mark) := hr.slotD (k + 1) 5 (by omega) (slot_room (by omega))
      have g6 : wr.cell? ⟨A.sb, (k + 1) * 7 + 6, none⟩ = some (.int .i64 (S (k + 1)).link) := hr.slotD (k + 1) 6 (by omega) (slot_room (by omega))
      have HSC := Lib.hid (slotsCells_succ S k)
      have HSD : Hid (slotCells (S (k + 1)) = [.int .i64 (S (k + 1)).gen, .int .i64 (S (k + 1)).a, .int .i64 (S (k + 1)).b, .int .i64 (S (k + 1)).c, .int .i64 (S (k + 1)).d, .int .i64 (S (k + 1)).mark, .int .i64 (S (k + 1)).link]) := Lib.hid rfl
      generalize slotsCells S k = xs at *
      have HGG : Hid (∀ W, Only [] wr W → Calls Tryz.prog 74 #[.pointer (some ⟨A.m, 0, none⟩), .int .i64 ((n + 2 + (k + 1) : Nat) : Int)] W fun e w' => e = .returned (.int .i64 (S (k + 1)).gen) ∧ W = w') := Lib.hid (fun W o => by
        have h := mem_get (a := n + 2 + (k + 1)) (hP.plain o).q.mem (by omega) (by omega)
        rw [wordsF_gen] at h
        exact h)
      have hw1 : IntKind.i64.wrap ((n : Int) + 2 + ((k : Int) + 1)) = ((n + 2 + (k + 1) : Nat) : Int) := by rw [IntWalk.i64_in _ ⟨by omega, by omega⟩]; omega
      have HKC : Hid (∀ W, Only [] wr W → W.cell? ⟨A.r, 0, none⟩ = some (.pointer (some ⟨A.m, 0, none⟩)) ∧ W.cell? ⟨A.r, 2, none⟩ = some (.int .i64 ((n : Int) + 2))) := Lib.hid (fun W o => ⟨keep_cell o c0, keep_cell o c2⟩)
      generalize (S (k + 1)).gen = x0 at *
      generalize (S (k + 1)).a = x1 at *
      generalize (S (k + 1)).b = x2 at *
      generalize (S (k + 1)).c = x3 at *
      generalize (S (k + 1)).d = x4 at *
      generalize (S (k + 1)).mark = x5 at *
      generalize (S (k + 1)).link = x6 at *
      clear hk hr hP hown hO
      go_upto_region 6 with fail
      refine wp_name (fun w2 => Only [] wr w2 ∧ Blk w2 wr.heap.size #[.int .i64 0, .int .i64 x1, .int .i64 x2, .int .i64 x3, .int .i64 x4, .int .i64 x5, .int .i64 x6] 64) ⟨Only.alloc _ _ _, Blk.new _ _ _⟩ ?_
      obtain ⟨cb, hcb⟩ : ∃ q, wr.heap.size = q := ⟨_, rfl⟩
      rw [hcb]
      rintro w2 ⟨hX2, hB2⟩
      have HX2 := Lib.hid hX2
      have HB2 := Lib.hid hB2
      have HCB := Lib.hid hcb
      have q := HKC.out w2 hX2
      have z0 : w2.cell? ⟨cb, 0, none⟩ = some (.int .i64 0) := hB2.cell 0 rfl
      have zf := hB2.free 0
      have HS2 : Hid (∀ v : Value, (w2.drew.setCell ⟨cb, 0, none⟩ v).cell? ⟨A.r, 0, none⟩ = some (.pointer (some ⟨A.m, 0, none⟩)) ∧ (w2.drew.setCell ⟨cb, 0, none⟩ v).cell? ⟨A.r, 2, none⟩ = some (.int .i64 ((n : Int) + 2))) := Lib.hid (fun v => HKC.out _ (hX2.past ((Only.drew [cb] w2).trans (Only.setCell _ (by simp) v)) (by simp; omega)))
      clear hX2 hB2 hcb c0 c1 c2 c3 c4 c5 g0 g1 g2 g3 g4 g5 g6
      go_region_held3 (fun W => W.cell? ⟨A.r, 0, none⟩ = some (.pointer (some ⟨A.m, 0, none⟩)) ∧ W.cell? ⟨A.r, 2, none⟩ = some (.int .i64 ((n : Int) + 2)))
        (first | with_reducible exact q | exact q | exact HS2.out _)
        (first | (go_at_call 74; refine (HGG.out w2.drew (HX2.out.trans (Only.drew _ _))).mono ?_; rintro e w4 ⟨rfl, rfl⟩))
      go_upto_region 7 with fail
      refine wp_name (fun w3 => Only [] wr w3 ∧ Blk w3 cb #[.int .i64 x0, .int .i64 x1, .int .i64 x2, .int .i64 x3, .int .i64 x4, .int .i64 x5, .int .i64 x6] 64) ⟨HX2.out.past ((Only.setCell (S := [cb]) _ (a := ⟨cb, 0, none⟩) (by simp) _).trans (Only.drew _ _)) (by have := HCB.out; simp; omega), HB2.out.set_same 0 _⟩ ?_
      rintro w3 ⟨hX3, hB3⟩
      have b0 : w3.cell? ⟨cb, 0, none⟩ = some (.int .i64 x0) := hB3.cell 0 rfl
      have b1 : w3.cell? ⟨cb, 1, none⟩ = some (.int .i64 x1) := hB3.cell 1 rfl
      have b2 : w3.cell? ⟨cb, 2, none⟩ = some (.int .i64 x2) := hB3.cell 2 rfl
      have b3 : w3.cell? ⟨cb, 3, none⟩ = some (.int .i64 x3) := hB3.cell 3 rfl
      have b4 : w3.cell? ⟨cb, 4, none⟩ = some (.int .i64 x4) := hB3.cell 4 rfl
      have b5 : w3.cell? ⟨cb, 5, none⟩ = some (.int .i64 x5) := hB3.cell 5 rfl
      have b6 : w3.cell? ⟨cb, 6, none⟩ = some (.int .i64 x6) := hB3.cell 6 rfl
      have HO3 := Lib.hid (ownsRow_only HOWN.out hX3 (fun _ _ => by simp))
      have HX3 := Lib.hid (HOO.out.trans hX3)
      have hsz3 : w.heap.size ≤ w3.heap.size := HX3.out.size
      obtain ⟨hi0, hz0, hz1, hz2⟩ := HI0.out
      clear hX3 hB3 HX2 HB2 HS2 q z0 zf HKC HGG
      go_upto_region 8 with (at_builtin; refine wpList_append_any (by rfl) (.tmp 33) (.tmp 35) 58 (by rfl) w.heap.size 64 i0 _ 7 56 Tryz.underlying58 hi0 hz0 hz1 hz2 rfl (by decide) _ k xs rfl (HO3.out.alloc _) (some ⟨w3.heap.size, 0, none⟩) 1 1 [.int .i64 x0, .int .i64 x1, .int .i64 x2, .int .i64 x3, .int .i64 x4, .int .i64 x5, .int .i64 x6] rfl rfl (fun e => by cases e) (fun ad e => by cases e; exact cells_seven _ _ _ _ _ _ _ _ _) (fun u hu => by simp at hu; rcases hu with rfl | rfl | rfl | rfl | rfl | rfl | rfl <;> rfl) (by unfold maxLen; omega) (by omega) (by simp; omega) ?_)
      intro v5 w5 hown5 hX5 hat5
      have hX35 : Only [] w w5 := HX3.out.past ((Only.alloc (Value.slice ad k cp).ownBlock.toList w3 _).trans hX5) (fun b hb => Or.inr (HO3.out.lt b (by simpa using hb)).1)
      have HF := Lib.hid (And.intro hown5 hX35)
      clear hown5 hX5 hat5 hX35 b0 b1 b2 b3 b4 b5 b6 hi0 hz0 hz1 hz2
      go_wp2_with fail
      go_roundg (gk - 1)
      case measure => have := HK.out; omega
      case rel => exact ⟨k + 1, by have := HK.out; omega, by rw [show ((k + 1 : Nat) : Int) = (k : Int) + 1 from by omega], by rw [HSC.out, HSD.out]; exact HF.out.1, HF.out.2⟩
    · have hkn' : k = n := by omega
      subst hkn'
      clear hk hown hO hP
      go_wp2_with fail
      go_ret
      exact ⟨_, rfl, HOWN.out, HOO.out⟩
end

end Go.Proofs.YtpknnamficegbaaGreatDoor

