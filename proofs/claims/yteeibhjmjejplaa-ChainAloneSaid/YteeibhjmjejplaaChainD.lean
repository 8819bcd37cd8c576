/- A chain, alone: Push as a call. Conditions: pool, clock and chain stand in memory as PoolAt, ClkAt, ChainAt say. -/
import Derived.Test.YteeibhjmjejplaaChainC
namespace Go.Proofs.Yteeibhjmjejplaa
open Go.RowKit

set_option maxRecDepth 100000 in
set_option maxHeartbeats 2000000 in
theorem chain_push_full (X : CA) (A : PA) (cb n : Nat) (hd : Int) (Z : Nat → Ent) (S : Nat → Sl) (t : Int) (fa a b c d old : Int) (v : Value) (w : World) (C : ChainAt w X A cb n hd Z) (H : PoolAt w A n S t [] fa) :
    Calls Try.prog 11 #[.pointer (some ⟨X.x, 0, none⟩), .pointer none, .int .i64 old, .agg #[.int .i64 a, .int .i64 b, .int .i64 c, .int .i64 d], v] w fun e w' => e = .returned (.tuple #[.int .i64 0, .bool false, .int .i64 102]) ∧ Only [] w w' := by
  go_enter Try.func11, Try.ntmps11
  go_wp2_with fail
  refine wp_name (fun w1 => ChainAt w1 X A cb n hd Z ∧ PoolAt w1 A n S t [] fa ∧ Blk w1 w.heap.size #[.int .i64 a, .int .i64 b, .int .i64 c, .int .i64 d] 39 ∧ Only [] w w1) ⟨C.only (Only.alloc [] _ _) (by simp), H.only (Only.alloc [] _ _) (by simp), Blk.new _ _ _, Only.alloc _ _ _⟩ ?_
  rintro w1 ⟨hC, hP, hB, hO1⟩
  have hc0 := hC.head.cell 0 rfl
  have b0 := hB.cell 0 rfl
  have b1 := hB.cell 1 rfl
  have b2 := hB.cell 2 rfl
  have b3 := hB.cell 3 rfl
  have HT := Lib.hid (pool_take_full A n S t fa a b c d old w1.drew (hP.only (Only.drew [] _) (by simp)))
  have HO1 := Lib.hid hO1
  clear H C hP hC hO1
  go_cut [13, 14] (fun s13 s14 wc => s13 = .int .i64 0 ∧ s14 = .int .i64 102 ∧ Only [] w wc)
  case first =>
    go_region_with (go_at_call 29; refine HT.out.mono ?_; rintro e w2 ⟨rfl, hX2⟩)
    all_goals (go_wp2_with fail; go_meet)
    all_goals exact ⟨rfl, rfl, (HO1.out.trans (Only.drew _ _)).trans hX2⟩
  case rest =>
    obtain ⟨rfl, rfl, hO2⟩ := hcut
    clear HT HO1 hc0 b0 b1 b2 b3 hB
    go_wp2_with fail
    go_ret3
    exact ⟨rfl, hO2⟩

set_option maxRecDepth 100000 in
set_option maxHeartbeats 4000000 in
theorem chain_push (X : CA) (A : PA) (cb cq n i : Nat) (hd : Int) (Z : Nat → Ent) (S : Nat → Sl) (t : Int) (r : List Nat) (fa a b c d old now : Int) (ls : List Int) (v : Value) (xs : List Int) (w : World) (C : ChainAt w X A cb n hd Z) (H : PoolAt w A n S t (i :: r) fa) (K : ClkAt w cb cq now ls) (SP : Sep A X cb cq)
    (R : Reads w v xs) (hR : ∀ k, k ∈ blockOf v → k ∉ A.all ∧ k ∉ X.all) (hxs : xs.length ≤ 100000) (h1 : 1 ≤ i) (h2 : i ≤ n) (hir : i ∉ r) (ho : (S i).gen % 2 = 0) (hg : 0 ≤ (S i).gen ∧ (S i).gen ≤ 999999999999) (ht : t + 2 ≤ 1000000000000) :
    Calls Try.prog 11 #[.pointer (some ⟨X.x, 0, none⟩), .pointer none, .int .i64 old, .agg #[.int .i64 a, .int .i64 b, .int .i64 c, .int .i64 d], v] w fun e w' =>
      (hd = old → e = .returned (.tuple #[.int .i64 (wd i ((S i).gen + 1)), .bool true, .int .i64 0]) ∧
        PoolAt w' A n (upS S i ⟨(S i).gen + 1, now, old, a, b, c, d⟩) (t + 1) r fa ∧ ∃ v', ChainAt w' X A cb n (wd i ((S i).gen + 1)) (upE Z i ⟨wd i ((S i).gen + 1), v', xs⟩) ∧ w'.ownsRow w.heap.size 3 1 v' xs.length (xs.map (Value.int .i64)) ∧ Only (A.all ++ X.all) w w') ∧
      (¬ hd = old → e = .returned (.tuple #[.int .i64 0, .bool false, .int .i64 0]) ∧
        PoolAt w' A n (upS S i (poisoned ((S i).gen + 2))) (t + 2) (i :: r) fa ∧ ∃ v', ChainAt w' X A cb n hd (upE Z i ⟨wd i ((S i).gen + 1), v', xs⟩) ∧ Only (A.all ++ X.all) w w') := by
  have hm := H.many
  have hXl := C.lt
  have hAl := H.lt
  have hcbl := K.head.lt
  have hcql := K.row.lt
  obtain ⟨hg0, hg1⟩ := hg
  have HW := Lib.hid (hid_wd_index (g := (S i).gen + 1) h2 hm.2 (by omega) (by omega))
  have HI := Lib.hid (show idxOf (wd i ((S i).gen + 1)) = i from idxOf_wd (by omega) (by omega) (by omega) (by omega))
  have HTG := Lib.hid (show tagOf (wd i ((S i).gen + 1)) = (S i).gen + 1 from tagOf_wd (by omega) (by omega) (by omega) (by omega))
  have HG := Lib.hid (fun m : Int => show (upS S i ⟨(S i).gen + 1, m, old, a, b, c, d⟩ i).gen = (S i).gen + 1 by rw [upS_same])
  have HO := Lib.hid (show ((S i).gen + 1) % 2 = 1 by omega)
  generalize hh : wd i ((S i).gen + 1) = h at *
  have HH := Lib.hid hh
  clear hh
  go_enter Try.func11, Try.ntmps11
  go_wp2_with fail
  refine wp_name (fun w1 => ChainAt w1 X A cb n hd Z ∧ PoolAt w1 A n S t (i :: r) fa ∧ ClkAt w1 cb cq now ls ∧ Reads w1 v xs ∧ Blk w1 w.heap.size #[.int .i64 a, .int .i64 b, .int .i64 c, .int .i64 d] 39 ∧ Only [] w w1) ⟨C.only (Only.alloc [] _ _) (by simp), H.only (Only.alloc [] _ _) (by simp), K.only (Only.alloc [] _ _) (by simp) (by simp), R.only (Only.alloc [] _ _) (by simp), Blk.new _ _ _, Only.alloc _ _ _⟩ ?_
  rintro w1 ⟨hC, hP, hK, hR1, hB, hO1⟩
  have hc0 := hC.head.cell 0 rfl
  have b0 := hB.cell 0 rfl
  have b1 := hB.cell 1 rfl
  have b2 := hB.cell 2 rfl
  have b3 := hB.cell 3 rfl
  have HT := Lib.hid (pool_take A n i S t r fa a b c d old w1.drew (hP.only (Only.drew [] _) (by simp)) ⟨hg0, by omega⟩ (by omega))
  rw [HH.out] at HT
  have HC := Lib.hid hC
  have HK := Lib.hid hK
  have HR1 := Lib.hid hR1
  have HO1 := Lib.hid hO1
  have HXA := Lib.hid (fun k hk => (SP.pool k hk).1)
  have HKA := Lib.hid (show cb ∉ A.all ∧ cq ∉ A.all from ⟨fun hm => (SP.pool _ hm).2.1 rfl, fun hm => (SP.pool _ hm).2.2 rfl⟩)
  have HKX := Lib.hid (show cb ∉ X.all ∧ cq ∉ X.all from ⟨fun hm => (SP.chain _ hm).1 rfl, fun hm => (SP.chain _ hm).2 rfl⟩)
  clear H C K R hP hC hK hR1 hO1
  go_cut [13, 14] (fun s13 s14 wc => s13 = .int .i64 h ∧ s14 = .int .i64 0 ∧ PoolAt wc A n (upS S i ⟨(S i).gen + 1, 0, old, a, b, c, d⟩) (t + 1) r fa ∧ ChainAt wc X A cb n hd Z ∧ ClkAt wc cb cq now ls ∧ Reads wc v xs ∧ Only A.all w wc)
  case first =>
    go_region_with (go_at_call 29; refine HT.out.mono ?_; rintro e w2 ⟨rfl, hP2, hX2⟩)
    all_goals (go_wp2_with fail; go_meet)
    all_goals exact ⟨rfl, rfl, hP2, (HC.out.only (Only.drew [] _) (by simp)).only hX2 (fun k hk hm => HXA.out k hm hk), (HK.out.only (Only.drew [] _) (by simp) (by simp)).only hX2 HKA.out.1 HKA.out.2, (HR1.out.only (Only.drew [] _) (by simp)).only hX2 (fun k hk => (hR k hk).1), ((HO1.out.mono (by simp)).trans (Only.drew _ _)).trans hX2⟩
  case rest =>
    obtain ⟨rfl, rfl, hP2, hC2, hK2, hR2, hO2⟩ := hcut
    clear HT HC HK HR1 HO1 hc0 b0 b1 b2 b3 hB
    have hc0 := hC2.head.cell 0 rfl
    have hc3 := hC2.head.cell 3 rfl
    have HC2 := Lib.hid hC2
    have HCL := Lib.hid (fun w h => clone_ints v xs w h hxs)
    have HP2 := Lib.hid hP2
    have HK2 := Lib.hid hK2
    have HR2 := Lib.hid hR2
    have HO2 := Lib.hid hO2
    have hil : (i : Int) < (n : Int) + 1 := by omega
    clear hP2 hC2 hO2 hK2 hR2
    go_upto_region 4 with fail
    go_cut [] (fun wd => PoolAt wd A n (upS S i ⟨(S i).gen + 1, 0, old, a, b, c, d⟩) (t + 1) r fa ∧ ClkAt wd cb cq now ls ∧ ∃ v', ChainAt wd X A cb n hd (upE Z i ⟨h, v', xs⟩) ∧ wd.ownsRow w.heap.size 3 1 v' xs.length (xs.map (Value.int .i64)) ∧ Only (A.all ++ X.all) w wd)
    case first =>
      go_region_with (first | (go_at_call 30; refine (HW.out _).mono ?_; rintro e w' ⟨rfl, rfl⟩) | (go_at_call 33; refine (HCL.out wc.drew (HR2.out.only (Only.drew [] _) (by simp))).mono ?_; rintro e w3 ⟨v', rfl, hown3, hX3⟩; obtain ⟨ad', cap', rfl⟩ := own_slice hown3; have hC3 := (HC2.out.only (Only.drew [] _) (by simp)).only hX3 (by simp); have hr0 : w3.cell? ⟨X.sb, i * 2, none⟩ = some (entCell Z (i * 2)) := hC3.row.cell (by omega); have hr1 : w3.cell? ⟨X.sb, i * 2 + 1, none⟩ = some (entCell Z (i * 2 + 1)) := hC3.row.cell (by omega); have hf0 := hC3.row.free (i * 2); have hf1 := hC3.row.free (i * 2 + 1); have hd0 : w3.cell? ⟨X.x, 3, none⟩ = some (.slice (some ⟨X.sb, 0, none⟩) (n + 1) (n + 1)) := hC3.head.cell 3 rfl; have HOWN := Lib.hid hown3; have HC3 := Lib.hid hC3; clear hown3 hC3))
      all_goals (go_wp2_with fail; go_meet)
      all_goals
        obtain ⟨hC4, hX4⟩ := HC3.out.setEnt i ⟨h, .slice ad' xs.length cap', xs⟩ rfl
        have hX5 := ((Only.drew (S := X.all) wc).trans (hX3.mono (by simp))).trans hX4
        have hXa : ∀ k, k ∈ A.all → k ∉ X.all := HXA.out
        have hw := HO2.out.size
        have hb : ∀ k, (Value.slice ad' xs.length cap').ownBlock = some k → k ∉ X.all := fun k hk hm => by have h5 := (HOWN.out.lt k hk).1; have h6 := hXl k hm; simp at h5; omega
        have hown5 := (own_only HOWN.out hX4 hb).mono hw
        first
          | exact ⟨HP2.out.only hX5 hXa, HK2.out.only hX5 HKX.out.1 HKX.out.2, _, hC4, hown5, (HO2.out.mono (by intro k hk; simp [hk])).trans (hX5.mono (by intro k hk; simp [hk]))⟩
          | exact ⟨HP2.out.only (hX5.trans (Only.drew _ _)) hXa, HK2.out.only (hX5.trans (Only.drew _ _)) HKX.out.1 HKX.out.2, _, hC4.only (Only.drew [] _) (by simp), own_only hown5 (Only.drew [] _) (by simp), (HO2.out.mono (by intro k hk; simp [hk])).trans ((hX5.trans (Only.drew _ _)).mono (by intro k hk; simp [hk]))⟩
    case rest =>
      obtain ⟨hP3, hK3, v', hC3, hown3, hO3⟩ := hcut
      have HOWN := Lib.hid hown3
      have HO3 := Lib.hid hO3
      have hv3 := own_lt hown3
      have HV3 := Lib.hid (fun k hk => (hv3 k hk).1)
      clear HC2 HP2 HK2 HR2 HO2 HCL hc0 hc3 hown3 hO3 hv3
      by_cases hod : hd = old
      · subst hod
        have HL := Lib.hid (chain_lays X A cb n hd _ h wc hC3)
        have HP3 := Lib.hid hP3
        have HK3 := Lib.hid hK3
        clear hP3 hK3 hC3
        go_wp2_with fail
        refine HL.out.mono ?_
        rintro e w4 ⟨rfl, hC4, hX4⟩
        have hP4 := HP3.out.only hX4 HXA.out
        have hK4 := HK3.out.only hX4 HKX.out.1 HKX.out.2
        have hM : Meets A n (upS S i ⟨(S i).gen + 1, 0, hd, a, b, c, d⟩) (t + 1) r fa h i := by
          have := meets_wd (A := A) (n := n) (i := i) (S := upS S i ⟨(S i).gen + 1, 0, hd, a, b, c, d⟩) (t := t + 1) (fs := r) (fa := fa) h1 h2 hm.2 (by rw [upS_same]; exact HO.out) (by rw [upS_same]; show 0 ≤ (S i).gen + 1; omega) (by rw [upS_same]; show (S i).gen + 1 ≤ 1000000000000; omega)
          rwa [HG.out, HH.out] at this
        have hs := chain_settle0 X A cb cq n i h _ _ (t + 1) r fa h now ls w4 hC4 hP4 hK4 h2 hM (by rw [upS_same])
        rw [upS_same, upS_upS] at hs
        have HS := Lib.hid hs
        have HC4 := Lib.hid hC4
        have HX4 := Lib.hid hX4
        clear HL HP3 HK3 hP4 hK4 hM hs hC4 hX4
        go_wp2_with fail
        refine HS.out.mono ?_
        rintro e w5 ⟨rfl, hP5, hX5⟩
        have HP5 := Lib.hid hP5
        have HX5 := Lib.hid hX5
        clear HS hP5 hX5
        go_wp2_with fail
        go_ret3
        refine ⟨rfl, HP5.out, v', HC4.out.only HX5.out (fun k hk hm => HXA.out k hm hk), ?_, (HO3.out.trans (HX4.out.mono (by intro k hk; simp [hk]))).trans (HX5.out.mono (by intro k hk; simp [hk]))⟩
        exact own_only (own_only HOWN.out HX4.out (fun k hk hm => by have h5 := (HOWN.out.lt k hk).1; have h6 := hXl k hm; omega)) HX5.out (fun k hk hm => by have h5 := (HOWN.out.lt k hk).1; have h6 := hAl k hm; omega)
      · have hg := chain_lays_no X A cb n i hd _ _ (t + 1) r fa old h ((S i).gen + 1) wc hC3 hod hP3 h1 h2 HI.out HTG.out HO.out (by rw [upS_same]) hir (by omega)
        rw [upS_upS] at hg
        rw [show (S i).gen + 1 + 1 = (S i).gen + 2 by omega, show t + 1 + 1 = t + 2 by omega] at hg
        have HL := Lib.hid hg
        have HC3 := Lib.hid hC3
        have HOD := Lib.hid hod
        clear hP3 hK3 hC3 hg hod
        go_wp2_with fail
        refine HL.out.mono ?_
        rintro e w4 ⟨rfl, hP4, hX4⟩
        have HP4 := Lib.hid hP4
        have HX4 := Lib.hid hX4
        clear HL hP4 hX4
        go_wp2_with fail
        go_ret3
        exact ⟨fun he => absurd he HOD.out, fun _ => ⟨rfl, HP4.out, v', HC3.out.only HX4.out (fun k hk hm => HXA.out k hm hk), HO3.out.trans (HX4.out.mono (by intro k hk; simp [hk]))⟩⟩

end Go.Proofs.Yteeibhjmjejplaa
