/- The statement's function, walked: a long row of calls on a pool, alone, answers true. -/
import Derived.Test.YtoeaibiaklbokaaPoolM
namespace Go.Proofs.Ytoeaibiaklbokaa
open Go.RowKit

set_option maxRecDepth 100000 in
set_option maxHeartbeats 20000000 in
theorem long_core (n : Nat) (x0 c0 : Int) (h1 : 1 ≤ n) (h2 : n ≤ 4096) (hx0 : 0 ≤ x0) (hx1 : x0 < 2147483648) (hc1 : c0 ≤ 32768) (w : World) :
    Calls Try.prog 3 #[.int .i64 n, .int .i64 x0, .int .i64 c0] w fun e w' => e = .returned (.bool true) ∧ Only [] w w' := by
  go_enter Try.func3, Try.ntmps3
  go_wp2_with fail
  refine (pool_known w).mono ?_
  rintro e w0 ⟨rfl, hO0⟩
  go_wp2_with fail
  refine (pool_new n h1 h2 w0).mono ?_
  rintro e w1 ⟨A, rfl, hP, hO1, hA⟩
  have hOb := hO0.trans hO1
  have hAl := hP.lt
  have HAL := Lib.hid hAl
  have HA := Lib.hid (fun k hk => Nat.le_trans hO0.size (hA k hk))
  clear hO0 hO1 hA hAl
  go_wp2_with (go_at_call 6; refine (num_any _ _).mono ?_; rintro e w' ⟨rfl, rfl⟩)
  go_loopg [9, 10, 11, 12, 13] c0.toNat (fun g s9 s10 s11 s12 s13 wr => ∃ (k : Nat) (S : Nat → Sl) (t : Int) (fs : List Nat) (fa : Int) (L : List Nat) (last x : Int), k + g = c0.toNat ∧ s10 = .int .i64 last ∧ s11 = .int .i64 fa ∧ s12 = .int .i64 x ∧ s13 = .int .i64 k ∧ 0 ≤ x ∧ x < 2147483648 ∧ Bk n S t fs fa L last k ∧ PoolAt wr A n S t fs fa ∧ wr.ownsRow w1.heap.size 33 7 s9 L.length (hcs S L) ∧ Only [] w wr ∧ w1.heap.size ≤ wr.heap.size)
  case atStart => exact ⟨0, _, _, _, _, [], 0, x0, by omega, rfl, rfl, rfl, rfl, hx0, hx1, Bk.start n, hP, World.ownsRow_nil _ _ _ _, hOb, Nat.le_refl _⟩
  case round =>
    obtain ⟨k, S, t, fs, fa, L, last, x, hk, rfl, rfl, rfl, rfl, hxa, hxb, hBk, hPr, hown, hOr, hsz⟩ := hrel
    clear hP hOb
    obtain ⟨ad, cap, rfl⟩ := own_slice hown
    have HB := Lib.hid hBk
    have hm := hBk.many
    have HM := Lib.hid hm
    have HK := Lib.hid hk
    have HO := Lib.hid hown
    have hfl := hBk.flt
    have HT := Lib.hid hBk.tag
    obtain ⟨hfl0, hfl1⟩ := hfl
    clear hBk hown
    have hmn : L.length ≤ n := by omega
    clear hm
    by_cases hkc : (k : Int) < c0
    · have hk2 : k ≤ 32768 := by omega
      clear hk
      go_wp2_with fail
      refine (next31 x _ hxa hxb).mono ?_
      rintro e w' ⟨y, rfl, hya, hyb, rfl⟩
      clear hxa hxb
      go_upto_region 16 with fail
      generalize hkd : y / 16 % 8 = kd
      have hk0 : 0 ≤ kd := by omega
      have hk8 : kd < 8 := by omega
      clear hkd
      go_cut [80] (fun s80 wc => wc = wr ∧ s80 = .bool (decide (kd < 3 ∨ L.length = 0)))
      case first =>
        by_cases h3 : kd < 3
        · go_wp2_with fail
          go_meet
          case rel => exact ⟨rfl, by simp [h3]⟩
        · go_wp2_with fail
          go_meet
          case rel =>
            refine ⟨rfl, ?_⟩
            have e : ((L.length : Int) == 0) = decide (L.length = 0) := by rw [Bool.eq_iff_iff]; simp
            have h3' : ¬ kd < 3 := by omega
            simp [e, h3']
      case rest =>
        obtain ⟨rfl, rfl⟩ := hcut
        by_cases htk : kd < 3 ∨ L.length = 0
        · rw [decide_eq_true htk]
          clear htk
          go_upto_region 18 with fail
          generalize hln : y / 9 = ln
          clear hln
          have hwb : w.heap.size ≤ w1.heap.size := by obtain ⟨nx, hp⟩ := hPr.pile; have h1 := HA.out A.p (by simp [PA.all]); have h2 := HAL.out A.p (by simp [PA.all]); omega
          have hab : wc.heap.size ∉ A.all := fun hm => by have := HAL.out _ hm; omega
          refine wp_name (fun w2 => PoolAt w2 A n S t fs fa ∧ Blk w2 wc.heap.size #[.int .i64 0, .int .i64 0, .int .i64 ln, .int .i64 k, .int .i64 y, .int .i64 0, .int .i64 0] 33 ∧ Hid (w2.ownsRow w1.heap.size 33 7 (Value.slice ad L.length cap) L.length (hcs S L)) ∧ Only [] w w2 ∧ w1.heap.size ≤ w2.heap.size) ⟨hPr.only (Only.alloc [] _ _) (by simp), Blk.new _ _ _, Lib.hid (own_pool (T := []) HO.out (Only.alloc [] _ _) (by simp)), hOr.trans (Only.alloc _ _ _), by simp; omega⟩ ?_
          rintro w2 ⟨hP2, hB2, HO2, hO2, hs2⟩
          have hg0 : ∀ g, (Value.slice ad L.length cap).ownBlock = some g → g ≠ wc.heap.size := fun g hg => by have := (HO.out.lt g hg).2; omega
          have HG := Lib.hid hg0
          have hwab : w.heap.size ≤ wc.heap.size := hOr.size
          clear hg0 hPr hOr HO
          generalize wc.heap.size = ab at *
          clear wc
          have a2 := hB2.cell 2 rfl
          have a3 := hB2.cell 3 rfl
          have a4 := hB2.cell 4 rfl
          have a5 := hB2.cell 5 rfl
          have a6 := hB2.cell 6 rfl
          cases fs with
          | nil =>
            as_aux_lemma =>
            have hLn : L.length = n := by simpa using HM.out
            have hLn2 : ((L.length : Int) < n) = False := by simp; omega
            have HL := Lib.hid hLn
            clear hLn hmn
            go_wp2_with fail
            refine (pool_take_full A n S t fa _ _ _ _ _ _ hP2).mono ?_
            rintro e w3 ⟨rfl, hX3⟩
            have hP3 := hP2.only hX3 (by simp)
            have hO3 := hO2.trans hX3
            have HO3 := Lib.hid (own_pool (T := []) HO2.out hX3 (by simp))
            have hs3 := hX3.size
            clear hP2 hB2 HO2 hO2 hX3 a2 a3 a4 a5 a6
            go_wp2_with (go_at_call 6; refine (num_any _ _).mono ?_; rintro e w' ⟨rfl, rfl⟩)
            go_roundg (gk - 1)
            case measure => have := HK.out; omega
            case rel => exact ⟨k + 1, S, t, [], fa, L, last, y, by have := HK.out; omega, rfl, rfl, rfl, by go_num, hya, hyb, HB.out.later, hP3, HO3.out, hO3, by omega⟩
          | cons i r =>
            have hgn := HB.out.gens i
            have htg := HT.out
            have hLn : (L.length : Int) < n := by have := HM.out; simp at this; omega
            have hiL : i ∉ L := fun hm => (HB.out.used i hm).2.2.1 (by simp)
            have HIL := Lib.hid hiL
            obtain ⟨i0, hi0, hz0, hz1, hz2⟩ := info_parts info_held
            clear hmn hiL
            go_wp2_with fail
            refine (pool_take A n i S t r fa _ _ _ _ _ _ hP2 ⟨hgn.1, by omega⟩ (by omega)).mono ?_
            generalize hnw : wd i ((S i).gen + 1) = nw
            rintro e w3 ⟨rfl, hP3, hX3⟩
            have hB3 := hB2.only hX3 hab
            have hO3 := hO2.past hX3 (fun k hk => Or.inr (HA.out k hk))
            have HO3 := Lib.hid (own_pool HO2.out hX3 HAL.out)
            have HNW := Lib.hid hnw
            have hs3 := hX3.size
            clear hP2 hB2 HO2 hO2 hX3 a2 a3 a4 a5 a6 hnw hgn htg
            have a0 := hB3.cell 0 rfl
            have f0 := hB3.free 0
            go_upto_region 23 with (go_at_call 6; refine (num_any _ _).mono ?_; rintro e w' ⟨rfl, rfl⟩)
            have hX4 : Only [ab] w3 (w3.setCell ⟨ab, 0, none⟩ (.int .i64 nw)) := Only.setCell _ (by simp) _
            refine wp_name (fun w4 => PoolAt w4 A n (upS S i ⟨(S i).gen + 1, 0, ln, k, y, 0, 0⟩) (t + 1) r fa ∧ Blk w4 ab #[.int .i64 nw, .int .i64 0, .int .i64 ln, .int .i64 k, .int .i64 y, .int .i64 0, .int .i64 0] 33 ∧ Hid (w4.ownsRow w1.heap.size 33 7 (Value.slice ad L.length cap) L.length (hcs S L)) ∧ Only [] w w4 ∧ w1.heap.size ≤ w4.heap.size) ⟨hP3.only hX4 (by intro k hk; simp; exact fun e => hab (e ▸ hk)), by simpa using hB3.set_same 0 (.int .i64 nw), Lib.hid (own_only HO3.out hX4 (fun k hk hm => HG.out k hk (by simpa using hm))), hO3.past hX4 (by simp; omega), by have := hX4.size; omega⟩ ?_
            clear hP3 hB3 HO3 hO3 hX4 a0 f0 hs3
            rintro w4 ⟨hP4, hB4, HO4, hO4, hs4⟩
            clear w3
            have a0 := hB4.cell 0 rfl
            have a1 := hB4.cell 1 rfl
            have a2 := hB4.cell 2 rfl
            have a3 := hB4.cell 3 rfl
            have a4 := hB4.cell 4 rfl
            have a5 := hB4.cell 5 rfl
            have a6 := hB4.cell 6 rfl
            go_wp2_with (at_builtin; refine wpList_append_own _ rfl (.tmp 109) (.tmp 111) 28 rfl w1.heap.size 33 i0 _ 7 56 Try.underlying28 hi0 hz0 hz1 hz2 rfl (by decide) _ _ _ rfl (HO4.out.alloc _) ⟨w4.heap.size, 0, none⟩ 1 1 [.int .i64 nw, .int .i64 0, .int .i64 ln, .int .i64 k, .int .i64 y, .int .i64 0, .int .i64 0] rfl rfl (cells_seven _ _ _ _ _ _ _ _ _) (fun u hu => by simp at hu; rcases hu with rfl | rfl | rfl | rfl | rfl | rfl | rfl <;> rfl) (by unfold maxLen; omega) (by omega) (by simp; omega) ?_)
            intro v' w5 hown5 hg5 _
            have hX5 : Only (Value.slice ad L.length cap).ownBlock.toList w4 w5 := (Only.alloc _ _ _).trans (Only.of_grown hg5 (by intro k hk; simp [hk]))
            have hP5 := hP4.only hX5 (by intro k hk hm; have := HAL.out k hk; have := (HO4.out.lt k (by simpa using hm)).1; omega)
            have hO5 := hO4.past hX5 (by intro k hm; right; have := (HO4.out.lt k (by simpa using hm)).1; omega)
            have HOW5 := Lib.hid hown5
            have hs5 := hX5.size
            clear hown5 hg5 hP4 hB4 HO4 hO4 hX5 a0 a1 a2 a3 a4 a5 a6
            go_wp2_with fail
            go_roundg (gk - 1)
            case measure => have := HK.out; omega
            case rel =>
              refine ⟨k + 1, _, _, r, fa, L ++ [i], last, y, by have := HK.out; omega, rfl, rfl, rfl, by go_num, hya, hyb, HB.out.take _ rfl, hP5, ?_, hO5, by omega⟩
              rw [hcs_push S L i HIL.out, HNW.out, List.length_append]
              exact HOW5.out
        · as_aux_lemma =>
          have h3 : 3 ≤ kd := by omega
          have hLp : 0 < L.length := by omega
          rw [decide_eq_false htk]
          clear htk
          go_upto_region 25 with fail
          generalize hpe : y / 128 % (L.length : Int) = pz
          obtain ⟨p, rfl⟩ : ∃ p : Nat, pz = p := ⟨pz.toNat, by have := Int.emod_nonneg (y / 128) (show (L.length:Int) ≠ 0 by omega); omega⟩
          have hp : p < L.length := by have := Int.emod_lt_of_pos (y / 128) (show 0 < (L.length:Int) by omega); omega
          clear hpe
          obtain ⟨g, pre, i, suf, rfl, hL, hpl, hgb, hgs, hnc, hcm, hfz, hcl⟩ := held_at HO.out hp
          have HU := Lib.hid (HB.out.used i (by rw [hL]; simp))
          have HGE := Lib.hid (HB.out.gens i)
          have hgA : g ∉ A.all := fun hm => by have := HAL.out g hm; omega
          have HgA := Lib.hid hgA
          have HgW : w.heap.size ≤ g := by have h2 := HAL.out A.p (by simp [PA.all]); have h1 := HA.out A.p (by simp [PA.all]); omega
          have hmt : Meets A n S t fs fa (wd i (S i).gen) i := by
            have hu := HU.out
            have hg := HGE.out
            exact meets_of hu.1 hu.2.1 (idxOf_wd (by omega) (by omega) (by omega) (by omega)) (tagOf_wd (by omega) (by omega) (by omega) (by omega)) hu.2.2.2 rfl
          have HMT := Lib.hid hmt
          have HL := Lib.hid hL
          have Hpl := Lib.hid hpl
          have HC := Lib.hid hcl
          have HFZ := Lib.hid hfz
          have HP := Lib.hid hPr
          have HOr := Lib.hid hOr
          clear hL hpl hcl hfz hPr hOr hgA hmt
          go_upto_block 2 with fail
          go_cut [9, 10, 11, 20] (fun s9 s10 s11 s20 wd => ∃ (S' : Nat → Sl) (t' : Int) (fs' : List Nat) (fa' : Int) (L' : List Nat) (last' : Int), s20 = .bool true ∧ s10 = .int .i64 last' ∧ s11 = .int .i64 fa' ∧ Hid (Bk n S' t' fs' fa' L' last' (k + 1)) ∧ Hid (PoolAt wd A n S' t' fs' fa') ∧ Hid (wd.ownsRow w1.heap.size 33 7 s9 L'.length (hcs S' L')) ∧ Hid (Only [] w wd) ∧ w1.heap.size ≤ wd.heap.size)
          case first =>
            have c0 : wc.cell? ⟨g, p * 7, none⟩ = some (.int .i64 (wd i (S i).gen)) := HC.out 0 _ rfl
            rcases (by omega : kd = 3 ∨ kd = 4 ∨ kd = 5 ∨ kd = 6 ∨ kd = 7) with rfl | rfl | rfl | rfl | rfl
            · as_aux_lemma =>
              have hu := HU.out
              have hge := HGE.out
              have hix : idxOf (wd i (S i).gen) = (i : Int) := idxOf_wd (by omega) (by omega) (by omega) (by omega)
              have htx : tagOf (wd i (S i).gen) = (S i).gen := tagOf_wd (by omega) (by omega) (by omega) (by omega)
              have HIX := Lib.hid hix
              have HTX := Lib.hid htx
              have ht := HT.out
              clear hix htx
              go_wp2_with fail
              refine (pool_give A n i S t fs fa _ _ _ HP.out hu.1 hu.2.1 HIX.out HTX.out hu.2.2.2 rfl hu.2.2.1 (by omega)).mono ?_
              rintro e w2 ⟨rfl, hP2, hX2⟩
              have HP2 := Lib.hid hP2
              have HO2 := Lib.hid (own_pool HO.out hX2 HAL.out)
              have HX2 := Lib.hid (HOr.out.past hX2 (fun k hk => Or.inr (HA.out k hk)))
              have e0 : w2.cell? ⟨g, p * 7, none⟩ = some (.int .i64 (wd i (S i).gen)) := (hX2.cell hgs HgA.out).trans c0
              have hcx : ∀ j u, (hc S i)[j]? = some u → w2.cell? ⟨g, p * 7 + j, none⟩ = some u := fun j u hu => (hX2.cell hgs HgA.out).trans (HC.out j u hu)
              have e1 := hcx 1 _ rfl
              have e2 := hcx 2 _ rfl
              have e3 := hcx 3 _ rfl
              have e4 := hcx 4 _ rfl
              have e5 := hcx 5 _ rfl
              have e6 := hcx 6 _ rfl
              have hs2 := hX2.size
              clear hcx
              have hf2 : ∀ j, w2.frozen? ⟨g, j, none⟩ = false := fun j => (hX2.frozen hgs HgA.out).trans (HFZ.out j)
              have HF2 := Lib.hid hf2
              clear c0 hP2 hX2 hf2 hu hge ht
              go_wp2_with (go_at_call 6; refine (num_any _ _).mono ?_; rintro e w' ⟨rfl, rfl⟩)
              refine (pool_give_gone A n i _ _ _ fa _ _ _ HP2.out HU.out.1 HU.out.2.1 HIX.out HTX.out HU.out.2.2.2 (by rw [upS_same]; show ¬ ((S i).gen + 1 = (S i).gen); omega)).mono ?_
              rintro e w' ⟨rfl, rfl⟩
              obtain ⟨pre', l, hL', hlen, htl, hperm⟩ := last_of (pre := pre) (suf := suf) (i := i)
              rw [← HL.out] at hL' hlen hperm
              have HB3 := Lib.hid (HB.out.give hperm)
              have HPM := Lib.hid hperm
              have HLT := Lib.hid htl
              have HL3 := Lib.hid hL'
              have hlast : pre'.length = L.length - 1 := by omega
              have hO2l : w2.ownsRow w1.heap.size 33 7 (.slice (some ⟨g, 0, none⟩) (pre' ++ l :: []).length cap) (pre' ++ l :: []).length (hcs S (pre' ++ l :: [])) := by
                rw [← hL']; exact HO2.out
              obtain ⟨g', cap', hv, _, _, _, _, _, hcl⟩ := held_cell hO2l
              cases hv
              rw [hlast] at hcl
              have d0 : w2.cell? ⟨g, (L.length - 1) * 7, none⟩ = some (.int .i64 (wd l (S l).gen)) := hcl 0 _ rfl
              have d1 := hcl 1 _ rfl
              have d2 := hcl 2 _ rfl
              have d3 := hcl 3 _ rfl
              have d4 := hcl 4 _ rfl
              have d5 := hcl 5 _ rfl
              have d6 := hcl 6 _ rfl
              have z0 : w2.frozen? ⟨g, p * 7, none⟩ = false := HF2.out _
              have z1 := HF2.out (p * 7 + 1)
              have z2 := HF2.out (p * 7 + 2)
              have z3 := HF2.out (p * 7 + 3)
              have z4 := HF2.out (p * 7 + 4)
              have z5 := HF2.out (p * 7 + 5)
              have z6 := HF2.out (p * 7 + 6)
              have HHL := Lib.hid hlen
              have HLAST := Lib.hid hlast
              clear hcl hO2l hL' hlen htl hperm hlast
              go_upto_region 31 with (go_at_call 6; refine (num_any _ _).mono ?_; rintro e w' ⟨rfl, rfl⟩)
              go_upto_region 32 with fail
              refine wp_name (fun w3 => Hid (PoolAt w3 A n (upS S i (poisoned ((S i).gen + 1))) (t + 1) (i :: fs) fa) ∧ Hid (w3.ownsRow w1.heap.size 33 7 (.slice (some ⟨g, 0, none⟩) (L.length - 1) cap) (L.length - 1) (hcs S ((pre ++ l :: suf).take (L.length - 1)))) ∧ Hid (Only [] w w3) ∧ w1.heap.size ≤ w3.heap.size) ?_ ?_
              · have hh := held_swap (n := L.length) (pre := pre) (suf := suf) (i := i) (l := l) (by rw [← HL.out]) (by rw [← HL.out]; exact HO2.out) _ _ _ _ _ _ _ rfl
                rw [Hpl.out] at hh
                have hX4 : Only [g] w2 (((((((w2.setCell ⟨g, p * 7, none⟩ (.int .i64 (wd l (S l).gen))).setCell ⟨g, p * 7 + 1, none⟩ (.int .i64 (S l).mark)).setCell ⟨g, p * 7 + 2, none⟩ (.int .i64 (S l).link)).setCell ⟨g, p * 7 + 3, none⟩ (.int .i64 (S l).a)).setCell ⟨g, p * 7 + 4, none⟩ (.int .i64 (S l).b)).setCell ⟨g, p * 7 + 5, none⟩ (.int .i64 (S l).c)).setCell ⟨g, p * 7 + 6, none⟩ (.int .i64 (S l).d)) :=
                  ((((((Only.setCell _ (by simp) _).trans (Only.setCell _ (by simp) _)).trans (Only.setCell _ (by simp) _)).trans (Only.setCell _ (by simp) _)).trans (Only.setCell _ (by simp) _)).trans (Only.setCell _ (by simp) _)).trans (Only.setCell _ (by simp) _)
                exact ⟨Lib.hid (HP2.out.only hX4 (by intro k hk hm; simp at hm; exact HgA.out (hm ▸ hk))), Lib.hid hh, Lib.hid (HX2.out.past hX4 (by simp; omega)), by have := hX4.size; omega⟩
              · rintro w3 ⟨HP3, HO3, HX3, hs3⟩
                clear HP2 HO2 HX2 HF2 e0 e1 e2 e3 e4 e5 e6 d0 d1 d2 d3 d4 d5 d6 z0 z1 z2 z3 z4 z5 z6
                go_wp2_with fail
                go_meet
                case rel =>
                  refine ⟨_, _, _, fa, _, _, rfl, rfl, rfl, HB3, HP3, Lib.hid ?_, HX3, hs3⟩
                  have hnd := (HPM.out.nodup_iff).1 HB.out.once
                  rw [List.nodup_cons] at hnd
                  rw [hcs_congr (L := (pre ++ l :: suf).take pre'.length) (S := upS S i (poisoned ((S i).gen + 1))) (S' := S) (fun k hk => upS_other _ _ (fun e => hnd.1 (e ▸ hk))), HLT.out, HLAST.out]
                  exact HO3.out
            · as_aux_lemma =>
              go_wp2_with fail
              refine (pool_read A n i S t fs fa _ _ HP.out HU.out.2.1 HMT.out).mono ?_
              rintro e w2 ⟨rfl, hX2⟩
              have hP2 := HP.out.only hX2 (by simp)
              have HO2 := Lib.hid (own_pool (T := []) HO.out hX2 (by simp))
              have hO2 := HOr.out.trans hX2
              have hcx : ∀ j u, (hc S i)[j]? = some u → w2.cell? ⟨g, p * 7 + j, none⟩ = some u := fun j u hu => (hX2.cell hgs (by simp)).trans (HC.out j u hu)
              have e3 := hcx 3 _ rfl
              have e4 := hcx 4 _ rfl
              have e5 := hcx 5 _ rfl
              have e6 := hcx 6 _ rfl
              have hg2 : g < w2.heap.size := Nat.lt_of_lt_of_le hgs hX2.size
              have hs2 := hX2.size
              clear c0 hcx hX2
              go_upto_region 35 with fail
              have hX3 : Only [] w2 (w2.alloc (.cells #[.int .i64 (S i).a, .int .i64 (S i).b, .int .i64 (S i).c, .int .i64 (S i).d] 31)) := Only.alloc _ _ _
              have HP3 := Lib.hid (hP2.only hX3 (by simp))
              have HO3 := Lib.hid (own_pool (T := []) HO2.out hX3 (by simp))
              have HX3 := Lib.hid (hO2.trans hX3)
              clear hX3 hP2 HO2 hO2
              go_quiet ((go_at_call 6; exact Calls.quiet_of_same ((num_any _ _).mono fun _ _ h => ⟨h.1, h.2.symm⟩)))
              go_wp2_with fail
              go_meet
              case rel => exact ⟨S, t, fs, fa, L, last, rfl, rfl, rfl, Lib.hid HB.out.later, Lib.hid (HP3.out.only (Only.drewN [] _ _) (by simp)), Lib.hid (own_pool (T := []) HO3.out (Only.drewN [] _ _) (by simp)), Lib.hid (HX3.out.trans (Only.drewN [] _ _)), by simp; omega⟩
            · as_aux_lemma =>
              have f1 : wc.frozen? ⟨g, p * 7 + 1, none⟩ = false := HFZ.out _
              have e1 : wc.cell? ⟨g, p * 7 + 1, none⟩ = some (.int .i64 (S i).mark) := HC.out 1 _ rfl
              go_wp2_with fail
              refine (pool_mark A n i S t fs fa _ _ HP.out HU.out.2.1 HMT.out).mono ?_
              rintro e w' ⟨rfl, rfl⟩
              go_wp2_with fail
              by_cases hmk : (S i).mark = y / 7 % 3
              · as_aux_lemma =>
                rw [← hmk]
                refine (pool_cas_hit A n i S t fs fa _ _ _ HP.out HU.out.2.1 HMT.out).mono ?_
                rintro e w2 ⟨rfl, hP2, hX2⟩
                have hb : ((S i).mark == y / 7 % 3) = true := beq_iff_eq.2 hmk
                have e2 : w2.cell? ⟨g, p * 7 + 1, none⟩ = some (.int .i64 (S i).mark) := (hX2.cell hgs HgA.out).trans e1
                have f2 : w2.frozen? ⟨g, p * 7 + 1, none⟩ = false := (hX2.frozen hgs HgA.out).trans f1
                have HP2 := Lib.hid hP2
                have HO2 := Lib.hid (own_pool HO.out hX2 HAL.out)
                have HX2 := Lib.hid (HOr.out.past hX2 (fun k hk => Or.inr (HA.out k hk)))
                have hs2 := hX2.size
                have HMK := Lib.hid hmk
                clear c0 e1 f1 hP2 hX2 hmk
                go_upto_region 41 with (go_at_call 6; refine (num_any _ _).mono ?_; rintro e w' ⟨rfl, rfl⟩)
                go_wp2_with fail
                go_meet
                case rel =>
                  have hX4 : Only [g] w2 (w2.setCell ⟨g, p * 7 + 1, none⟩ (.int .i64 (y % 5))) := Only.setCell _ (by simp) _
                  have hh := held_put (by rw [← HL.out]; exact HB.out.once) (by rw [← HL.out]; exact HO2.out) 1 (by omega) (.int .i64 (y % 5)) { S i with mark := y % 5 } (by simp [hc, upS_same])
                  rw [Hpl.out, ← HL.out] at hh
                  exact ⟨upS S i { S i with mark := y % 5 }, t, fs, fa, L, last, rfl, rfl, rfl, Lib.hid (HB.out.turned i _ rfl), Lib.hid (HP2.out.only hX4 (by intro k hk hm; simp at hm; exact HgA.out (hm ▸ hk))), Lib.hid hh, Lib.hid (HX2.out.past hX4 (by simp; omega)), by have := hX4.size; omega⟩
              · as_aux_lemma =>
                refine (pool_cas_miss A n i S t fs fa _ _ _ _ HP.out HU.out.2.1 HMT.out hmk).mono ?_
                rintro e w' ⟨rfl, rfl⟩
                have hb : ((S i).mark == y / 7 % 3) = false := beq_eq_false_iff_ne.2 hmk
                have HMK := Lib.hid hmk
                clear c0 hmk
                go_wp2_with (go_at_call 6; refine (num_any _ _).mono ?_; rintro e w' ⟨rfl, rfl⟩)
                go_meet
                case rel => exact ⟨S, t, fs, fa, L, last, rfl, rfl, rfl, Lib.hid HB.out.later, HP, HO, HOr, hsz⟩
            · as_aux_lemma =>
              have f1 : wc.frozen? ⟨g, p * 7 + 2, none⟩ = false := HFZ.out _
              have e1 : wc.cell? ⟨g, p * 7 + 2, none⟩ = some (.int .i64 (S i).link) := HC.out 2 _ rfl
              go_wp2_with fail
              refine (pool_swaplink A n i S t fs fa _ _ _ HP.out HU.out.2.1 HMT.out).mono ?_
              rintro e w2 ⟨rfl, hP2, hX2⟩
              have e2 : w2.cell? ⟨g, p * 7 + 2, none⟩ = some (.int .i64 (S i).link) := (hX2.cell hgs HgA.out).trans e1
              have f2 : w2.frozen? ⟨g, p * 7 + 2, none⟩ = false := (hX2.frozen hgs HgA.out).trans f1
              have HP2 := Lib.hid hP2
              have HO2 := Lib.hid (own_pool HO.out hX2 HAL.out)
              have HX2 := Lib.hid (HOr.out.past hX2 (fun k hk => Or.inr (HA.out k hk)))
              have hs2 := hX2.size
              clear c0 e1 f1 hP2 hX2
              go_upto_region 45 with (go_at_call 6; refine (num_any _ _).mono ?_; rintro e w' ⟨rfl, rfl⟩)
              go_wp2_with fail
              go_meet
              case rel =>
                have hX4 : Only [g] w2 (w2.setCell ⟨g, p * 7 + 2, none⟩ (.int .i64 (y % 77))) := Only.setCell _ (by simp) _
                have hh := held_put (by rw [← HL.out]; exact HB.out.once) (by rw [← HL.out]; exact HO2.out) 2 (by omega) (.int .i64 (y % 77)) { S i with link := y % 77 } (by simp [hc, upS_same])
                rw [Hpl.out, ← HL.out] at hh
                exact ⟨upS S i { S i with link := y % 77 }, t, fs, fa, L, last, rfl, rfl, rfl, Lib.hid (HB.out.turned i _ rfl), Lib.hid (HP2.out.only hX4 (by intro k hk hm; simp at hm; exact HgA.out (hm ▸ hk))), Lib.hid hh, Lib.hid (HX2.out.past hX4 (by simp; omega)), by have := hX4.size; omega⟩
            · as_aux_lemma =>
              rcases HB.out.past with hl0 | ⟨j, gg, hj1, hj2, hl, ho, hg0, hg1⟩
              · as_aux_lemma =>
                have hz : (last != 0) = false := by rw [hl0]; rfl
                clear hl0
                go_wp2_with fail
                go_meet
                case rel => exact ⟨S, t, fs, fa, L, last, rfl, rfl, rfl, Lib.hid HB.out.later, HP, HO, HOr, hsz⟩
              · as_aux_lemma =>
                have hgj := HB.out.gens j
                have hix : idxOf (wd j gg) = (j : Int) := idxOf_wd (by omega) (by omega) (by omega) (by omega)
                have htx : tagOf (wd j gg) = gg := tagOf_wd (by omega) (by omega) (by omega) (by omega)
                have hz : (last != 0) = true := by rw [hl, bne_iff_ne]; unfold wd; omega
                have hms : Misses A n S t fs fa last 104 (fa + 1) := by
                  rw [hl]
                  exact misses_gone hj1 hj2 hix htx ho (by omega) (by omega)
                have HMS := Lib.hid hms
                clear hms hl hix htx ho hg0 hg1 hgj
                go_wp2_with fail
                refine (pool_read_err A n S t fs fa _ 104 (fa + 1) _ HP.out HMS.out rfl).mono ?_
                rintro e w2 ⟨rfl, hP2, hX2⟩
                have hX3 : Only [] w2 (w2.alloc (.cells #[.int .i64 0, .int .i64 0, .int .i64 0, .int .i64 0] 31)) := Only.alloc _ _ _
                have HP3 := Lib.hid (hP2.only hX3 (by simp))
                have HO3 := Lib.hid (own_pool (T := []) (own_pool HO.out hX2 HAL.out) hX3 (by simp))
                have HX3 := Lib.hid ((HOr.out.past hX2 (fun k hk => Or.inr (HA.out k hk))).trans hX3)
                have hs2 := hX2.size
                clear c0 hP2 hX2 hX3
                go_wp2_with (go_at_call 6; refine (num_any _ _).mono ?_; rintro e w' ⟨rfl, rfl⟩)
                go_meet
                case rel => exact ⟨S, t, fs, fa + 1, L, last, rfl, rfl, rfl, Lib.hid HB.out.fault, HP3, HO3, HX3, by simp; omega⟩
          case rest =>
            obtain ⟨S', t', fs', fa', L', last', rfl, rfl, rfl, HB', HP', HO', HX', hsz'⟩ := hcut
            go_wp2_with fail
            go_roundg (gk - 1)
            case measure => have := HK.out; omega
            case rel => exact ⟨k + 1, S', t', fs', fa', L', last', y, by have := HK.out; omega, rfl, rfl, rfl, by go_num, hya, hyb, HB'.out, HP'.out, HO'.out, HX'.out, hsz'⟩
    · as_aux_lemma =>
      clear hk
      have HP := Lib.hid hPr
      have HX := Lib.hid hOr
      have heq : ((fs.length : Int) == (n : Int) - L.length) = true := by have := HM.out; rw [beq_iff_eq]; omega
      clear hPr hOr
      go_wp2_with (go_at_call 14; refine (pool_faults A n S t fs fa _ HP.out).mono ?_; rintro e w' ⟨rfl, rfl⟩)
      refine (pool_free A n S t fs fa _ HP.out).mono ?_
      rintro e w2 ⟨v, rfl, hv, hX2⟩
      obtain ⟨ad2, cap2, rfl⟩ := own_slice hv
      have HX2 := Lib.hid (HX.out.trans hX2)
      clear hv hX2
      go_wp2_with fail
      go_ret
      exact ⟨rfl, HX2.out⟩

end Go.Proofs.Ytoeaibiaklbokaa
