/- The chain's examples: known answers true. No condition. -/
import Derived.Test.YteeibhjmjejplaaChainH
namespace Go.Proofs.Yteeibhjmjejplaa
open Go.RowKit

theorem reads_two (w : World) (a b : Int) : Reads (w.alloc (.cells #[.int .i64 a, .int .i64 b] 3)) (.slice (some ⟨w.heap.size, 0, none⟩) 2 2) [a, b] := by
  refine ⟨_, 2, rfl, .inr ⟨_, 0, rfl, by simp, fun i hi => ?_⟩⟩
  have h := Blk.new w #[.int .i64 a, .int .i64 b] 3
  match i, hi with
  | 0, _ => exact h.cell 0 rfl
  | 1, _ => exact h.cell 1 rfl

set_option maxRecDepth 100000 in
set_option maxHeartbeats 4000000 in
theorem chain_known (w : World) : Calls Try.prog 4 #[] w fun e w' => e = .returned (.bool true) ∧ Only [] w w' := by
  go_enter Try.func4, Try.ntmps4
  go_wp2_with fail
  refine (pool_new 9 (by omega) (by omega) w).mono ?_
  rintro e w1 ⟨A, rfl, hP, hO1, hA⟩
  have hAl := hP.lt
  go_wp2_with fail
  refine (clock_new 2 (by omega) (by omega) w1).mono ?_
  rintro e w2 ⟨rfl, hK, hO2⟩
  have hkl := hK.head.lt
  have hP2 := hP.only hO2 (by simp)
  go_wp2_with fail
  refine (chain_new A _ 9 _ _ _ _ w2 hP2).mono ?_
  rintro e w3 ⟨X, rfl, hC, hO3, hX⟩
  have hXl := hC.lt
  have hP3 := hP2.only hO3 (by simp)
  have hK3 := hK.only hO3 (by simp) (by simp)
  have hSP : Sep A X (w1.heap.size + 1) w1.heap.size := ⟨fun k hk => by have h1 := hAl k hk; have h2 := hO2.size; exact ⟨fun hm => by have h3 := hX k hm; omega, by omega, by omega⟩, fun k hk => by have h1 := hX k hk; omega⟩
  have hb := ((hO1.trans hO2).trans hO3)
  have hlow : (∀ k, k ∈ A.all → k < w3.heap.size) ∧ (∀ k, k ∈ X.all → k < w3.heap.size) ∧ w1.heap.size + 1 < w3.heap.size ∧ w1.heap.size < w3.heap.size := ⟨fun k hk => by have h1 := hAl k hk; have h2 := hO2.size; have h3 := hO3.size; omega, hXl, by have h3 := hO3.size; omega, by have h3 := hO3.size; omega⟩
  have hnew : ∀ k, k ∈ A.all ++ X.all → w.heap.size ≤ k := fun k hk => by
    rcases List.mem_append.1 hk with h | h
    · exact hA k h
    · have h1 := hX k h; have h2 := (hO1.trans hO2).size; omega
  have HN := Lib.hid hnew
  have HF := Lib.hid (ch_first (base := w3.heap.size) (w := w3) (by omega) hP3 hK3 hC hSP hlow (Nat.le_refl _) 10 0 0 0)
  have HB := Lib.hid hb
  clear hnew hlow hSP hXl hP3 hK3 hC hX hO3 hkl hP2 hK hO2 hAl hA hP hO1 hb
  generalize w1.heap.size + 1 = cb at *
  generalize w1.heap.size = cq at *
  generalize w3.heap.size = base at *
  go_wp2_with fail
  refine HF.out.mono ?_
  rintro e w4 ⟨rfl, hCh, hO4⟩
  have hB4 := HB.out.past hO4 (fun k hk => Or.inr (HN.out k hk))
  have ht := ch_top hCh
  rw [upS_same] at ht
  have HT := Lib.hid ht
  have HCh := Lib.hid hCh
  have HB4 := Lib.hid hB4
  clear HF HB hCh hO4 hB4 ht
  go_wp2_with fail
  refine HT.out.mono ?_
  rintro e w' ⟨rfl, rfl⟩
  clear HT
  go_upto_region 10 with fail
  rw [show wd 1 1 = 1099511627777 from rfl] at *
  go_wp2_with fail
  have hC5 := HCh.out.plain (Only.alloc [] w4 (.cells #[.int .i64 7, .int .i64 8] 3))
  rw [show List.range' 2 (9 - 1) = 2 :: List.range' 3 7 from rfl] at hC5
  have hp := ch_push_ok hC5 20 0 0 0 _ [7, 8] (reads_two w4 7 8) (fun k hk => by
    have hl := hC5.low
    have hh := HCh.out.high
    simp [blockOf] at hk
    subst hk
    exact ⟨fun hm => by have := hl.1 _ hm; omega, fun hm => by have := hl.2.1 _ hm; omega⟩) (by decide) (by decide) (by decide)
  rw [show hdOf (upS (fun x => slot0) 1 ⟨1, 1, 0, 10, 0, 0, 0⟩) [1] = 1099511627777 from rfl, show (upS (fun x => slot0) 1 ⟨1, 1, 0, 10, 0, 0, 0⟩ 2).gen + 1 = 1 from rfl, show wd ((2 : Nat) : Int) 1 = 2199023255553 from rfl] at hp
  have HP := Lib.hid hp
  have HB5 := Lib.hid (HB4.out.trans (Only.alloc [] w4 (.cells #[.int .i64 7, .int .i64 8] 3)))
  clear hC5 hp HCh HB4
  refine HP.out.mono ?_
  rintro e w5 ⟨rfl, v', hC5, hO5, _⟩
  generalize hS2 : upS (upS (fun x => slot0) 1 ⟨1, 1, 0, 10, 0, 0, 0⟩) 2 ⟨1, 1, 1099511627777, 20, 0, 0, 0⟩ = S2 at hC5
  have s21 : S2 1 = ⟨1, 1, 0, 10, 0, 0, 0⟩ := by rw [← hS2]; rfl
  have s22 : S2 2 = ⟨1, 1, 1099511627777, 20, 0, 0, 0⟩ := by rw [← hS2]; rfl
  have s23 : (S2 3).gen = 0 := by rw [← hS2]; rfl
  generalize hZ2 : upE (upE (fun x => ent0) 1 ⟨1099511627777, .slice none 0 0, []⟩) 2 ⟨2199023255553, v', [7, 8]⟩ = Z2 at hC5
  have z22 : Z2 2 = ⟨2199023255553, v', [7, 8]⟩ := by rw [← hZ2]; rfl
  have hp := ch_push_no hC5 30 0 0 0 1099511627777 (by show ¬ wd ((2 : Nat) : Int) (S2 2).gen = _; rw [s22]; decide) (.slice none 0 0) [] (Reads.nil _) (fun k hk => by simp [blockOf] at hk) (by decide) (by decide)
  have HS21 := Lib.hid s21
  have HS22 := Lib.hid s22
  have HZ22 := Lib.hid z22
  have HPN := Lib.hid hp
  have HB6 := Lib.hid (HB5.out.past hO5 (fun k hk => Or.inr (HN.out k hk)))
  clear hp hS2 hZ2 s21 s22 s23 z22 hC5 hO5 HP HB5
  go_wp2_with fail
  refine HPN.out.mono ?_
  rintro e w6 ⟨rfl, v3, hC6, hO6⟩
  generalize hS3 : upS S2 3 (poisoned ((S2 3).gen + 2)) = S3 at hC6
  have s31 : S3 1 = ⟨1, 1, 0, 10, 0, 0, 0⟩ := by rw [← hS3, upS_other _ _ (by decide)]; exact HS21.out
  have s32 : S3 2 = ⟨1, 1, 1099511627777, 20, 0, 0, 0⟩ := by rw [← hS3, upS_other _ _ (by decide)]; exact HS22.out
  generalize hZ3 : upE Z2 3 ⟨wd ((3 : Nat) : Int) ((S2 3).gen + 1), v3, []⟩ = Z3 at hC6
  have z32 : Z3 2 = ⟨2199023255553, v', [7, 8]⟩ := by rw [← hZ3, upE_other _ _ (by decide)]; exact HZ22.out
  have HS31 := Lib.hid s31
  have HS32 := Lib.hid s32
  have HZ32 := Lib.hid z32
  have HC6 := Lib.hid hC6
  have HB7 := Lib.hid (HB6.out.past hO6 (fun k hk => Or.inr (HN.out k hk)))
  have HV := Lib.hid (ch_versions hC6)
  clear hS3 hZ3 s31 s32 z32 hC6 hO6 HPN HB6 HS21 HS22 HZ22
  go_wp2_with fail
  refine HV.out.mono ?_
  rintro e w7 ⟨vv, rfl, hown7, hO7⟩
  rw [show hands S3 [2, 1] = [2199023255553, 1099511627777] by simp [hands, HS31.out, HS32.out, wd]] at hown7
  have HR7 := Lib.hid (Reads.of_own hown7)
  have HC7 := Lib.hid (HC6.out.plain hO7)
  have HB8 := Lib.hid (HB7.out.trans hO7)
  clear hown7 hO7 HV HC6 HB7
  go_wp2_with fail
  refine (runs_ints _ _ [2199023255553, 1099511627777] _ (HR7.out.only (Only.alloc [] _ _) (by simp)) (reads_two w7 _ _) (by decide)).mono ?_
  rintro e w8 ⟨rfl, hO8⟩
  have hO8' := (Only.alloc [] w7 _).trans hO8
  have hC8 := HC7.out.plain hO8'
  have hs := ch_set hC8 (i := 2) (by simp)
  rw [HS32.out, HZ32.out] at hs
  rw [show wd ((2 : Nat) : Int) 1 = 2199023255553 from rfl] at hs
  have HSET := Lib.hid hs
  have HC8 := Lib.hid hC8
  have HB9 := Lib.hid (HB8.out.trans hO8')
  clear hs hC8 hO8' hO8 HC7 HB8 HR7
  go_wp2_with fail
  refine HSET.out.mono ?_
  rintro e w9 ⟨vs, rfl, hown9, hO9⟩
  have HR9 := Lib.hid (Reads.of_own hown9)
  have HC9 := Lib.hid (HC8.out.plain hO9)
  have HB10 := Lib.hid (HB9.out.trans hO9)
  clear hown9 hO9 HSET HC8 HB9
  go_wp2_with fail
  refine (runs_ints _ _ [7, 8] _ (HR9.out.only (Only.alloc [] _ _) (by simp)) (reads_two w9 _ _) (by decide)).mono ?_
  rintro e w10 ⟨rfl, hO10⟩
  have hO10' := (Only.alloc [] w9 _).trans hO10
  have hC10 := HC9.out.plain hO10'
  have hcut := ch_cut hC10 (k := 0) (i := 2) (j := 1) rfl rfl
  rw [HS31.out, HS32.out, HZ32.out] at hcut
  rw [show wd ((2 : Nat) : Int) 1 = 2199023255553 from rfl, show wd ((1 : Nat) : Int) 1 = 1099511627777 from rfl] at hcut
  have hrd := (hC10.ent 2 (by simp)).2
  rw [HZ32.out] at hrd
  have HRD := Lib.hid hrd
  have HCUT := Lib.hid hcut
  have HLOW := Lib.hid hC10.low
  have HB11 := Lib.hid (HB10.out.trans hO10')
  clear hcut hrd hC10 hO10' hO10 HC9 HB10 HR9
  go_wp2_with fail
  refine HCUT.out.mono ?_
  rintro e w11 ⟨rfl, hC11, hO11⟩
  have HRD11 := Lib.hid (HRD.out.1.only hO11 (fun k hk hm => by
    have h1 := (HRD.out.2.2 k hk).1
    rcases List.mem_append.1 hm with h | h
    · have := HLOW.out.1 k h; omega
    · have := HLOW.out.2.1 k h; omega))
  have hcl := ch_cut_last hC11 (k := 0) (i := 2) rfl rfl
  rw [upS_same] at hcl
  rw [show wd ((2 : Nat) : Int) 1 = 2199023255553 from rfl] at hcl
  have HCL := Lib.hid hcl
  have HB12 := Lib.hid (HB11.out.past hO11 (fun k hk => Or.inr (HN.out k hk)))
  have hbl := HRD.out.2.2
  have HBL := Lib.hid hbl
  clear hcl hC11 hO11 HCUT HB11 HRD hbl
  go_wp2_with fail
  refine HCL.out.mono ?_
  rintro e w12 ⟨rfl, hC12, hO12⟩
  have HRD12 := Lib.hid (HRD11.out.only hO12 (fun k hk hm => by
    have h1 := (HBL.out k hk).1
    rcases List.mem_append.1 hm with h | h
    · have := HLOW.out.1 k h; omega
    · have := HLOW.out.2.1 k h; omega))
  have HC12 := Lib.hid hC12
  have HB13 := Lib.hid (HB12.out.past hO12 (fun k hk => Or.inr (HN.out k hk)))
  clear hC12 hO12 HCL HB12 HRD11
  go_wp2_with fail
  refine (runs_ints _ _ [7, 8] _ (HRD12.out.only (Only.alloc [] _ _) (by simp)) (reads_two w12 _ _) (by decide)).mono ?_
  rintro e w13 ⟨rfl, hO13⟩
  have hO13' := (Only.alloc [] w12 _).trans hO13
  have hC13 := HC12.out.plain hO13'
  have hs := ch_set hC13 (i := 2) (by simp)
  rw [upS_same, upE_same] at hs
  rw [show wd ((2 : Nat) : Int) 1 = 2199023255553 from rfl] at hs
  have HSET := Lib.hid hs
  have HB14 := Lib.hid (HB13.out.trans hO13')
  clear hs hC13 hO13' hO13 HC12 HB13 HRD12
  go_wp2_with fail
  refine HSET.out.mono ?_
  rintro e w14 ⟨vl, rfl, hown14, hO14⟩
  obtain ⟨adl, capl, rfl⟩ := own_slice hown14
  have HB15 := Lib.hid (HB14.out.trans hO14)
  clear hown14 hO14 HSET HB14
  go_wp2_with fail
  go_ret
  exact ⟨rfl, HB15.out⟩

end Go.Proofs.Yteeibhjmjejplaa
