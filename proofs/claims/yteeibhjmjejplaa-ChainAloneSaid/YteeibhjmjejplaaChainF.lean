/- A chain's Set, Cut, At as calls, alone. Conditions: pool and chain stand in memory as PoolAt, ChainAt say. -/
import Derived.Test.YteeibhjmjejplaaChainE
namespace Go.Proofs.Yteeibhjmjejplaa
open Go.RowKit

set_option maxRecDepth 100000 in
set_option maxHeartbeats 2000000 in
theorem chain_set (X : CA) (A : PA) (cb n m : Nat) (hd : Int) (Z : Nat → Ent) (S : Nat → Sl) (t : Int) (fs : List Nat) (fa : Int) (w : World) (C : ChainAt w X A cb n hd Z) (H : PoolAt w A n S t fs fa) (hmn : m < n)
    (ho : (S (m + 1)).gen % 2 = 1) (h0 : 0 ≤ (S (m + 1)).gen) (h3 : (S (m + 1)).gen ≤ 1000000000000) (hz : (Z (m + 1)).h = wd ((m : Int) + 1) (S (m + 1)).gen) (R : Reads w (Z (m + 1)).v (Z (m + 1)).l) (hl : (Z (m + 1)).l.length ≤ 100000) :
    Calls Try.prog 19 #[.pointer (some ⟨X.x, 0, none⟩), .int .i64 (wd ((m : Int) + 1) (S (m + 1)).gen)] w fun e w' => ∃ v, e = .returned v ∧ w'.ownsRow w.heap.size 3 1 v (Z (m + 1)).l.length ((Z (m + 1)).l.map (Value.int .i64)) ∧ Only [] w w' := by
  have hm := H.many
  have hc0 := C.head.cell 0 rfl
  have HS := Lib.hid (pool_slots A n S t fs fa w H)
  have HAL := Lib.hid (fun w' base ad cap hs => chain_alive (.pointer (some ⟨X.x, 0, none⟩)) base n cap m ad S w' hs hmn hm.2 ho h0 h3)
  have HI := Lib.hid (fun w => (show Calls Try.prog 30 #[.int .i64 (wd ((m : Int) + 1) (S (m + 1)).gen)] w fun e w' => e = .returned (.int .i64 ((m : Int) + 1)) ∧ w = w' by
    have := word_idx (wd ((m : Int) + 1) (S (m + 1)).gen) w
    rwa [idxOf_wd (by omega) (by omega) h0 (by omega)] at this))
  have HZ := Lib.hid hz
  have HC := Lib.hid C
  have HR := Lib.hid R
  have HCL := Lib.hid (fun v xs w h hl => clone_ints v xs w h hl)
  generalize (Z (m + 1)).l = xs at *
  have hil : (m : Int) + 1 < (n : Int) + 1 := by omega
  have htn : ((m : Int) + 1).toNat = m + 1 := by omega
  generalize hh : wd ((m : Int) + 1) (S (m + 1)).gen = h at *
  obtain ⟨ad0, cap0, hv0⟩ : ∃ ad cap, (Z (m + 1)).v = .slice ad xs.length cap := by
    obtain ⟨ad, cap, hv, _⟩ := R
    exact ⟨ad, cap, hv⟩
  clear hh hz C H R ho h0 h3
  go_enter Try.func19, Try.ntmps19
  go_wp2_with fail
  refine HS.out.mono ?_
  rintro e w1 ⟨v, rfl, hown, hO⟩
  obtain ⟨ad, cap, rfl⟩ := own_slice hown
  have HAL1 := Lib.hid (HAL.out w1 _ _ _ hown)
  have HO := Lib.hid hO
  clear hown hO HAL HS hc0
  go_wp2_with fail
  refine HAL1.out.mono ?_
  rintro e w2 ⟨rfl, hO2⟩
  have hC2 := (HC.out.only HO.out (by simp)).only hO2 (by simp)
  have HR2 := Lib.hid ((HR.out.only HO.out (by simp)).only hO2 (by simp))
  have HC2 := Lib.hid hC2
  have HO2 := Lib.hid (HO.out.trans hO2)
  clear HO hO2 hC2 HAL1 HC HR
  go_upto_region 2 with fail
  refine wp_name (fun w3 => Only [] w2 w3) (Only.alloc _ _ _) ?_
  intro w3 hO3
  have hC3 := HC2.out.only hO3 (by simp)
  have HR3 := Lib.hid (HR2.out.only hO3 (by simp))
  have HO3 := Lib.hid (HO2.out.trans hO3)
  have hc3 : w3.cell? ⟨X.x, 3, none⟩ = some (.slice (some ⟨X.sb, 0, none⟩) (n + 1) (n + 1)) := hC3.head.cell 3 rfl
  have hs0 : w3.cell? ⟨X.sb, (m + 1) * 2, none⟩ = some (.int .i64 h) := by
    have := hC3.row.cell (j := (m + 1) * 2) (by omega)
    rw [entCell_h, HZ.out] at this
    exact this
  have hs1 : w3.cell? ⟨X.sb, (m + 1) * 2 + 1, none⟩ = some (.slice ad0 xs.length cap0) := by
    have := hC3.row.cell (j := (m + 1) * 2 + 1) (by omega)
    rw [entCell_v, hv0] at this
    exact this
  rw [hv0] at HR3
  have HHL := Lib.hid hl
  clear HC2 HR2 HO2 hO3 hC3 hv0 hl HZ
  go_quiet ((go_at_call 30; exact Calls.quiet_of_same ((HI.out _).mono fun _ _ h => ⟨h.1, h.2.symm⟩)))
  have HO4 := Lib.hid (HO3.out.trans (Only.drewN [] w3 nq))
  have HR4 := Lib.hid (HR3.out.only (Only.drewN [] w3 nq) (by simp))
  go_upto_region 4 with fail
  go_cut [4] (fun s4 wd => wd.ownsRow w.heap.size 3 1 s4 xs.length (xs.map (Value.int .i64)) ∧ Only [] w wd)
  case first =>
    go_region_with (first | (go_at_call 30; refine (HI.out _).mono ?_; rintro e w' ⟨rfl, rfl⟩) | (go_at_call 33; refine (HCL.out _ xs _ (HR4.out.only (Only.drew [] _) (by simp)) HHL.out).mono ?_; rintro e w5 ⟨v', rfl, hown5, hX5⟩))
    all_goals (go_wp2_with fail; go_meet)
    all_goals exact ⟨hown5.mono (by have := HO4.out.size; simpa using this), (HO4.out.trans (Only.drew [] _)).trans hX5⟩
  case rest =>
    obtain ⟨hown, hO⟩ := hcut
    have HW := Lib.hid hown
    clear hown
    go_wp2_with fail
    go_ret
    exact ⟨_, rfl, HW.out, hO⟩

set_option maxHeartbeats 1600000 in
theorem chain_cut_last (X : CA) (A : PA) (cb n i : Nat) (hd : Int) (Z : Nat → Ent) (S : Nat → Sl) (t : Int) (fs : List Nat) (fa h : Int) (w : World) (C : ChainAt w X A cb n hd Z) (H : PoolAt w A n S t fs fa) (h2 : i ≤ n) (M : Meets A n S t fs fa h i) (hk : (S i).link = 0) :
    Calls Try.prog 13 #[.pointer (some ⟨X.x, 0, none⟩), .pointer none, .int .i64 h] w fun e w' => e = .returned (.tuple #[.int .i64 0, .slice none 0 0, .int .i64 0]) ∧ PoolAt w' A n (upS S i { S i with link := 0 }) t fs fa ∧ Only A.all w w' := by
  have hc0 := C.head.cell 0 rfl
  have hs := pool_swaplink A n i S t fs fa h 0 w H h2 M
  rw [hk] at hs
  have HS := Lib.hid hs
  clear hs hk C H M
  go_enter Try.func13, Try.ntmps13
  go_wp2_with fail
  refine HS.out.mono ?_
  rintro e w1 ⟨rfl, hP, hO⟩
  have HP := Lib.hid hP
  clear hP hc0
  go_wp2_with fail
  go_ret3
  exact ⟨rfl, HP.out, hO⟩

set_option maxHeartbeats 1600000 in
theorem chain_cut (X : CA) (A : PA) (cb cq n i : Nat) (hd : Int) (Z : Nat → Ent) (S : Nat → Sl) (t : Int) (fs : List Nat) (fa h : Int) (ad : Option Addr) (len cap : Nat) (w : World) (C : ChainAt w X A cb n hd Z) (H : PoolAt w A n S t fs fa) (SP : Sep A X cb cq) (h1 : 1 ≤ i) (h2 : i ≤ n) (hidx : idxOf h = i) (M : Meets A n S t fs fa h i) (hk : ¬ (S i).link = 0) (hz : (Z i).h = h) (hv : (Z i).v = .slice ad len cap) :
    Calls Try.prog 13 #[.pointer (some ⟨X.x, 0, none⟩), .pointer none, .int .i64 h] w fun e w' => e = .returned (.tuple #[.int .i64 (S i).link, .slice ad len cap, .int .i64 0]) ∧ PoolAt w' A n (upS S i { S i with link := 0 }) t fs fa ∧ ChainAt w' X A cb n hd (upE Z i ⟨h, .slice none 0 0, []⟩) ∧ Only (A.all ++ X.all) w w' := by
  have hc0 := C.head.cell 0 rfl
  have hne : ((S i).link == 0) = false := by simpa using hk
  have HS := Lib.hid (pool_swaplink A n i S t fs fa h 0 w H h2 M)
  have HC := Lib.hid C
  have HXA := Lib.hid (fun k hk => (SP.pool k hk).1)
  have HI := Lib.hid (fun w => (show Calls Try.prog 30 #[.int .i64 h] w fun e w' => e = .returned (.int .i64 (i : Nat)) ∧ w = w' by
    have := word_idx h w
    rwa [hidx] at this))
  have HZ := Lib.hid hz
  have HV := Lib.hid hv
  have hil : (i : Int) < (n : Int) + 1 := by omega
  clear hk C H M hz hv hidx
  generalize (S i).link = lk at *
  go_enter Try.func13, Try.ntmps13
  go_wp2_with fail
  refine HS.out.mono ?_
  rintro e w1 ⟨rfl, hP, hO⟩
  have hC1 := HC.out.only hO (fun k hk hm => HXA.out k hm hk)
  have hc3 : w1.cell? ⟨X.x, 3, none⟩ = some (.slice (some ⟨X.sb, 0, none⟩) (n + 1) (n + 1)) := hC1.head.cell 3 rfl
  have hs0 : w1.cell? ⟨X.sb, i * 2, none⟩ = some (.int .i64 h) := by
    have := hC1.row.cell (j := i * 2) (by omega)
    rw [entCell_h, HZ.out] at this
    exact this
  have hs1 : w1.cell? ⟨X.sb, i * 2 + 1, none⟩ = some (.slice ad len cap) := by
    have := hC1.row.cell (j := i * 2 + 1) (by omega)
    rw [entCell_v, HV.out] at this
    exact this
  have hf1 := hC1.row.free (i * 2 + 1)
  have HP := Lib.hid hP
  have HC1 := Lib.hid hC1
  have HO := Lib.hid hO
  clear hP hc0 hC1 hO HS HC
  go_upto_region 4 with fail
  go_quiet ((go_at_call 30; exact Calls.quiet_of_same ((HI.out _).mono fun _ _ h => ⟨h.1, h.2.symm⟩)))
  go_wp2_with fail
  go_ret3
  obtain ⟨hC2, hX2⟩ := (HC1.out.only (Only.drewN [] w1 nq) (by simp)).cutEnt i rfl
  rw [HZ.out] at hC2
  have hX3 := (Only.drewN X.all w1 nq).trans hX2
  exact ⟨rfl, HP.out.only hX3 HXA.out, hC2, (HO.out.mono (by intro k hk; simp [hk])).trans (hX3.mono (by intro k hk; simp [hk]))⟩

/-- What At answers: the first whose mark isn't above the stamp. -/
def atAns (S : Nat → Sl) (stamp : Int) : List Nat → Int × Int
  | [] => (0, 141)
  | i :: r => if (S i).mark ≤ stamp then (wd i (S i).gen, 0) else atAns S stamp r

theorem atAns_yes {S : Nat → Sl} {stamp : Int} {L : List Nat} {k i : Nat} (hk : L[k]? = some i) (h : (S i).mark ≤ stamp) : atAns S stamp (L.drop k) = (wd i (S i).gen, 0) := by
  obtain ⟨hlt, hi⟩ := List.getElem?_eq_some_iff.1 hk
  rw [List.drop_eq_getElem_cons hlt, hi]
  simp [atAns, h]

theorem atAns_no {S : Nat → Sl} {stamp : Int} {L : List Nat} {k i : Nat} (hk : L[k]? = some i) (h : ¬ (S i).mark ≤ stamp) : atAns S stamp (L.drop k) = atAns S stamp (L.drop (k + 1)) := by
  obtain ⟨hlt, hi⟩ := List.getElem?_eq_some_iff.1 hk
  rw [List.drop_eq_getElem_cons hlt, hi]
  simp [atAns, h]

theorem Vers.meets {A : PA} {n : Nat} {S : Nat → Sl} {L : List Nat} {t : Int} {fs : List Nat} {fa : Int} (V : Vers n S L) (hn : n ≤ 4096) {i : Nat} (hi : i ∈ L) : Meets A n S t fs fa (wd i (S i).gen) i := by
  obtain ⟨h1, h2⟩ := V.range i hi
  obtain ⟨ho, h0, h3⟩ := V.odd i hi
  exact meets_wd h1 h2 hn ho h0 (by omega)

theorem Vers.pos {n : Nat} {S : Nat → Sl} {L : List Nat} (V : Vers n S L) {i : Nat} (hi : i ∈ L) : 0 < wd i (S i).gen := by
  obtain ⟨h1, h2⟩ := V.range i hi
  obtain ⟨ho, h0, h3⟩ := V.odd i hi
  unfold wd
  omega

set_option maxHeartbeats 1600000 in
theorem chain_at (X : CA) (A : PA) (cb n : Nat) (Z : Nat → Ent) (S : Nat → Sl) (t : Int) (fs : List Nat) (fa stamp : Int) (L : List Nat) (w : World) (C : ChainAt w X A cb n (hdOf S L) Z) (H : PoolAt w A n S t fs fa) (V : Vers n S L) (hL : L ≠ []) (hmk : ∀ i, i ∈ L → ¬ (S i).mark = 0) :
    Calls Try.prog 9 #[.pointer (some ⟨X.x, 0, none⟩), .pointer none, .int .i64 stamp] w fun e w' => e = .returned (.tuple #[.int .i64 (atAns S stamp L).1, .int .i64 (atAns S stamp L).2]) ∧ w = w' := by
  have hm := H.many
  have hc0 := C.head.cell 0 rfl
  obtain ⟨i0, r0, rfl⟩ : ∃ i r, L = i :: r := by
    cases L with
    | nil => exact absurd rfl hL
    | cons i r => exact ⟨i, r, rfl⟩
  have hi0 : i0 ∈ i0 :: r0 := by simp
  have HTOP := Lib.hid (chain_top X A cb n i0 Z S t fs fa _ w C H (V.range i0 hi0).2 (V.meets hm.2 hi0) (hmk i0 hi0) (by have := V.pos hi0; show ¬ wd i0 (S i0).gen = 0; omega))
  have HV := Lib.hid V
  have HH := Lib.hid H
  have HMK := Lib.hid hmk
  have hlen : 0 < (i0 :: r0).length := by simp
  have hhd : hdOf S (i0 :: r0) = wd i0 (S i0).gen := rfl
  rw [hhd] at HTOP
  have HL0 := Lib.hid (show (i0 :: r0)[0]? = some i0 from rfl)
  have HA := Lib.hid (show atAns S stamp (i0 :: r0) = atAns S stamp ((i0 :: r0).drop 0) from rfl)
  generalize i0 :: r0 = L at *
  clear C H V hmk hL hhd hi0
  go_enter Try.func9, Try.ntmps9
  go_wp2_with fail
  refine HTOP.out.mono ?_
  rintro e w' ⟨rfl, rfl⟩
  go_wp2_with fail
  go_loopg [8, 9, 10] L.length (fun g s8 s9 s10 wr => wr = w ∧ ∃ k i, k + g = L.length ∧ L[k]? = some i ∧ s8 = .int .i64 (wd i (S i).gen) ∧ s9 = .int .i64 (S i).mark ∧ s10 = .int .i64 0 ∧ atAns S stamp L = atAns S stamp (L.drop k))
  case atStart => exact ⟨rfl, 0, i0, by omega, HL0.out, rfl, rfl, rfl, HA.out⟩
  case round =>
    obtain ⟨rfl, k, i, hk, hi, rfl, rfl, rfl, hans⟩ := hrel
    have hiL : i ∈ L := List.mem_of_getElem? hi
    have HK := Lib.hid hk
    have HI := Lib.hid hi
    have HANS := Lib.hid hans
    clear hk hi hans HTOP
    by_cases hs : (S i).mark ≤ stamp
    · have hs2 : decide (stamp < (S i).mark) = false := by simp; omega
      have HY := Lib.hid (atAns_yes HI.out hs)
      clear hs
      generalize (S i).mark = mk at *
      go_wp2_with fail
      go_ret2
      exact ⟨by rw [HANS.out, HY.out]; rfl, rfl⟩
    · have hs2 : stamp < (S i).mark := by omega
      have HN := Lib.hid (atAns_no HI.out hs)
      have HLK := Lib.hid (pool_link A n i S t fs fa _ wr HH.out (HV.out.range i hiL).2 (HV.out.meets hm.2 hiL))
      have hnx := HV.out.links.next HI.out
      clear hs
      by_cases hk1 : k + 1 < L.length
      · obtain ⟨j, hj⟩ : ∃ j, L[k + 1]? = some j := ⟨_, List.getElem?_eq_getElem hk1⟩
        have hjL : j ∈ L := List.mem_of_getElem? hj
        rw [hdOf_drop hj] at hnx
        rw [hnx] at HLK
        have hne : (wd j (S j).gen == 0) = false := by have := HV.out.pos hjL; simp; omega
        have HMJ := Lib.hid (pool_mark A n j S t fs fa _ wr HH.out (HV.out.range j hjL).2 (HV.out.meets hm.2 hjL))
        have HJ := Lib.hid hj
        generalize hwj : wd j (S j).gen = hjv at *
        generalize hmj : (S j).mark = mj at *
        have HWJ := Lib.hid hwj
        have HMM := Lib.hid hmj
        clear hnx hj hwj hmj hk1 hiL hjL
        generalize (S i).mark = mk at *
        generalize wd i (S i).gen = hiv at *
        go_wp2_with fail
        refine HLK.out.mono ?_
        rintro e w' ⟨rfl, rfl⟩
        go_wp2_with fail
        refine HMJ.out.mono ?_
        rintro e w' ⟨rfl, rfl⟩
        go_wp2_with fail
        go_roundg (gk - 1)
        case measure => have := HK.out; have := (List.getElem?_eq_some_iff.1 HJ.out).1; omega
        case rel => exact ⟨rfl, k + 1, j, by have := HK.out; have := (List.getElem?_eq_some_iff.1 HJ.out).1; omega, HJ.out, by rw [HWJ.out], by rw [HMM.out], rfl, by rw [HANS.out, HN.out]⟩
      · have hkl := (List.getElem?_eq_some_iff.1 HI.out).1
        have hk2 : k + 1 = L.length := by omega
        rw [hk2, hdOf_end] at hnx
        rw [hnx] at HLK
        have HE := Lib.hid (show atAns S stamp L = (0, 141) by rw [HANS.out, HN.out, hk2, List.drop_length]; rfl)
        clear hnx hk1 hiL hkl hk2
        generalize (S i).mark = mk at *
        generalize wd i (S i).gen = hiv at *
        go_wp2_with fail
        refine HLK.out.mono ?_
        rintro e w' ⟨rfl, rfl⟩
        go_wp2_with fail
        go_ret2
        exact ⟨by rw [HE.out]; rfl, rfl⟩

end Go.Proofs.Yteeibhjmjejplaa
