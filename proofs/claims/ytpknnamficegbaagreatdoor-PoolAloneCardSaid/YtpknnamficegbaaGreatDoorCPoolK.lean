/- The statement's own first look at the pool (known): it returns true and writes nothing that was there. No condition. -/
import Derived.Test.YtpknnamficegbaaGreatDoorCSlots
set_option linter.unusedVariables false
set_option linter.unusedSimpArgs false
set_option linter.unusedSectionVars false
set_option linter.unnecessarySimpa false
namespace Go.Proofs.YtpknnamficegbaaGreatDoor
open Go.RowKit

set_option maxHeartbeats 400000 in
theorem num_any (x : Int) (w : World) : Calls Tryz.prog 10 #[.int .i64 x] w fun e w' => e = .returned (.int .i64 x) ∧ w = w' := by
  go_enter Tryz.func10, Tryz.ntmps10
  go_wp2_with fail
  go_ret
  exact ⟨rfl, rfl⟩

/-- A slice of slots that the call itself has made: its cells. -/
theorem own_open7 {w : World} {base : Nat} {e : TypeId} {v : Value} {n : Nat} {xs : List Value} (h : w.ownsRow base e 7 v n xs) (hn : 0 < n) :
    ∃ g cap rest, v = .slice (some ⟨g, 0, none⟩) n cap ∧ base ≤ g ∧ n ≤ cap ∧ cap ≤ maxLen ∧ Blk w g (xs ++ rest).toArray e := by
  obtain ⟨hl, h⟩ := h
  rcases h with ⟨rfl, rfl⟩ | ⟨g, cap, cur, hv, hg, hb, hnc, hm, hs, ht⟩
  · omega
  · refine ⟨g, cap, cur.toList.drop (n * 7), hv, hg, hnc, hm, ?_⟩
    unfold Blk
    rw [hb, ← ht]
    simp

set_option maxRecDepth 100000 in
set_option maxHeartbeats 2000000 in
theorem pool_known (w : World) : Calls Tryz.prog 4 #[] w fun e w' => e = .returned (.bool true) ∧ Only [] w w' := by
  go_enter Tryz.func4, Tryz.ntmps4
  go_wp2_with fail
  refine (pool_new 2 (by omega) (by omega) w).mono ?_
  rintro e w1 ⟨A, rfl, hP, hO, hA⟩
  rw [show List.range' 1 2 = [1, 2] from rfl] at hP
  have HA := Lib.hid hA
  clear hA
  go_wp2_with (go_at_call 10; refine (num_any _ _).mono ?_; rintro e w' ⟨rfl, rfl⟩)
  refine (word_pack 1 1 _ (by omega) (by omega) (by omega) (by omega)).mono ?_
  rintro e w' ⟨rfl, rfl⟩
  go_wp2_with fail
  refine (word_pack 1 3 _ (by omega) (by omega) (by omega) (by omega)).mono ?_
  rintro e w' ⟨rfl, rfl⟩
  go_wp2_with fail
  refine (word_pack 3 1 _ (by omega) (by omega) (by omega) (by omega)).mono ?_
  rintro e w' ⟨rfl, rfl⟩
  go_wp2_with fail
  refine (word_pack 1 2 _ (by omega) (by omega) (by omega) (by omega)).mono ?_
  rintro e w' ⟨rfl, rfl⟩
  go_wp2_with fail
  refine (pool_take A 2 1 _ 0 _ 0 1 2 3 4 0 _ hP ⟨by simp [slot0], by simp [slot0]⟩ (by omega)).mono ?_
  rintro e w2 ⟨rfl, hP2, hX2⟩
  have hO2 := hO.past hX2 (fun k hk => Or.inr (HA.out k hk))
  rw [show ((slot0.gen + 1 : Int)) = 1 from rfl, show (((1 : Nat) : Int)) = 1 from rfl, show ((0 : Int) + 1) = 1 from rfl] at *
  clear hP hO hX2
  go_wp2_with fail
  have hi1 : idxOf (wd 1 1) = (1 : Nat) := idxOf_wd (by omega) (by omega) (by omega) (by omega)
  have ht1 : tagOf (wd 1 1) = 1 := tagOf_wd (by omega) (by omega) (by omega) (by omega)
  have HI1 := Lib.hid hi1
  have HT1 := Lib.hid ht1
  clear hi1 ht1
  refine (pool_give A 2 1 _ 1 _ 0 (wd 1 1) 1 _ hP2 (by omega) (by omega) HI1.out HT1.out (by omega) (by rw [upS_same]) (by simp) (by omega)).mono ?_
  rintro e w3 ⟨rfl, hP3, hX3⟩
  rw [upS_upS] at hP3
  have hO3 := hO2.past hX3 (fun k hk => Or.inr (HA.out k hk))
  clear hP2 hO2 hX3
  go_wp2_with fail
  refine (pool_give_gone A 2 1 _ _ _ 0 (wd 1 1) 1 _ hP3 (by omega) (by omega) HI1.out HT1.out (by omega) (by rw [upS_same]; simp [poisoned])).mono ?_
  rintro e w' ⟨rfl, rfl⟩
  go_wp2_with fail
  refine (pool_slots A 2 _ _ _ 0 _ hP3).mono ?_
  rintro e w4 ⟨v, rfl, hown, hX4⟩
  obtain ⟨g, cap, rest, rfl, hg, hcap, hcm, hB4⟩ := own_open7 hown (by omega)
  have hgA : g ∉ A.all := fun hk => by have := hP3.lt g hk; omega
  have hgw : w.heap.size ≤ g := by have := hO3.size; omega
  have hP4 := hP3.only hX4 (by simp)
  have hO4 := hO3.trans hX4
  clear hown hX4 hP3 hO3 hg
  have hcs : slotsCells (upS (fun _ => slot0) 1 (poisoned (1 + 1))) 2 = [.int .i64 2, .int .i64 (-7777777), .int .i64 (-7777777), .int .i64 (-7777777), .int .i64 (-7777777), .int .i64 (-7777777), .int .i64 (-7777777), .int .i64 0, .int .i64 0, .int .i64 0, .int .i64 0, .int .i64 0, .int .i64 0, .int .i64 0] := rfl
  rw [hcs] at hB4
  clear hcs
  have hgn : g ∉ ([] : List Nat) := by simp
  go_wp2_with fail
  refine (pool_read_err A 2 _ _ _ 0 (wd 1 1) 104 (0 + 1) _ hP4 (misses_gone (g := 1) (by omega) (by omega) HI1.out HT1.out (by omega) (by rw [upS_same]; simp [poisoned]) (by omega)) rfl).mono ?_
  rintro e w5 ⟨rfl, hP5, hX5⟩
  rw [show ((0 : Int) + 1) = 1 from rfl] at hP5
  have hB5 := hB4.only hX5 hgA
  have hO5 := hO4.past hX5 (fun k hk => Or.inr (HA.out k hk))
  clear hP4 hB4 hO4 hX5
  go_wp2_with fail
  refine calls_name (fun w6 => PoolAt w6 A 2 (upS (fun _ => slot0) 1 (poisoned (1 + 1))) (1 + 1) [1, 2] 1 ∧ Blk w6 g _ 64 ∧ Only [] w w6) ⟨hP5.only (Only.alloc [] _ _) (by simp), hB5.alloc _, hO5.trans (Only.alloc _ _ _)⟩ ?_
  generalize w5.heap.size = S16
  clear hP5 hB5 hO5 w5
  rintro w6 ⟨hP6, hB6, hO6⟩
  refine (pool_take A 2 1 _ _ _ 1 0 0 0 0 0 _ hP6 ⟨by rw [upS_same]; simp [poisoned], by rw [upS_same]; simp [poisoned]⟩ (by omega)).mono ?_
  rw [upS_same]
  rw [show ((poisoned (1 + 1)).gen + 1) = 3 from rfl, show (((1 : Nat) : Int)) = 1 from rfl]
  rintro e w7 ⟨rfl, hP7, hX7⟩
  have hB7 := hB6.only hX7 hgA
  have hO7 := hO6.past hX7 (fun k hk => Or.inr (HA.out k hk))
  clear hP6 hB6 hO6 hX7
  have c0 : w7.cell? ⟨g, 0, none⟩ = some (.int .i64 2) := hB7.cell 0 rfl
  have c1 : w7.cell? ⟨g, 1, none⟩ = some (.int .i64 (-7777777)) := hB7.cell 1 rfl
  have c2 : w7.cell? ⟨g, 2, none⟩ = some (.int .i64 (-7777777)) := hB7.cell 2 rfl
  have c3 : w7.cell? ⟨g, 3, none⟩ = some (.int .i64 (-7777777)) := hB7.cell 3 rfl
  have c4 : w7.cell? ⟨g, 4, none⟩ = some (.int .i64 (-7777777)) := hB7.cell 4 rfl
  have c5 : w7.cell? ⟨g, 5, none⟩ = some (.int .i64 (-7777777)) := hB7.cell 5 rfl
  have c6 : w7.cell? ⟨g, 6, none⟩ = some (.int .i64 (-7777777)) := hB7.cell 6 rfl
  have c7 : w7.cell? ⟨g, 7, none⟩ = some (.int .i64 0) := hB7.cell 7 rfl
  have c8 : w7.cell? ⟨g, 8, none⟩ = some (.int .i64 0) := hB7.cell 8 rfl
  have c9 : w7.cell? ⟨g, 9, none⟩ = some (.int .i64 0) := hB7.cell 9 rfl
  have c10 : w7.cell? ⟨g, 10, none⟩ = some (.int .i64 0) := hB7.cell 10 rfl
  have c11 : w7.cell? ⟨g, 11, none⟩ = some (.int .i64 0) := hB7.cell 11 rfl
  have c12 : w7.cell? ⟨g, 12, none⟩ = some (.int .i64 0) := hB7.cell 12 rfl
  have c13 : w7.cell? ⟨g, 13, none⟩ = some (.int .i64 0) := hB7.cell 13 rfl
  have HP7 := Lib.hid hP7
  clear hP7 hB7
  go_wp2_with (first | (go_at_call 10; refine (num_any _ _).mono ?_; rintro e w' ⟨rfl, rfl⟩) | (go_at_call 16; refine (pool_faults A 2 _ _ _ 1 _ HP7.out).mono ?_; rintro e w' ⟨rfl, rfl⟩))
  have hb5 : ¬ isHandle 2 5 := fun h => absurd h.1 (by decide)
  have hb3 : ¬ isHandle 2 (wd 3 1) := fun h => by have := h.2.1; rw [idxOf_wd (by omega) (by omega) (by omega) (by omega)] at this; omega
  have hb2 : ¬ isHandle 2 (wd 1 2) := fun h => by have := h.2.2; rw [tagOf_wd (by omega) (by omega) (by omega) (by omega)] at this; omega
  have HB5 := Lib.hid hb5
  have HB3 := Lib.hid hb3
  have HB2 := Lib.hid hb2
  clear hb5 hb3 hb2 c0 c1 c2 c3 c4 c5 c6 c7 c8 c9 c10 c11 c12 c13
  refine (pool_read_err A 2 _ _ _ 1 5 103 1 _ HP7.out (misses_bad HB5.out) rfl).mono ?_
  rintro e w8 ⟨rfl, hP8, hX8⟩
  have hO8 := hO7.past hX8 (fun k hk => Or.inr (HA.out k hk))
  clear HP7 hO7 hX8
  go_wp2_with fail
  refine calls_name (fun w9 => PoolAt w9 A 2 _ _ _ 1 ∧ Only [] w w9) ⟨hP8.only (Only.alloc [] _ _) (by simp), hO8.trans (Only.alloc _ _ _)⟩ ?_
  generalize w8.heap.size = S21
  clear hP8 hO8 w8
  rintro w8 ⟨hP8, hO8⟩
  refine (pool_read_err A 2 _ _ _ 1 (wd 3 1) 103 1 _ hP8 (misses_bad HB3.out) rfl).mono ?_
  rintro e w9 ⟨rfl, hP9, hX9⟩
  have hO9 := hO8.past hX9 (fun k hk => Or.inr (HA.out k hk))
  clear hP8 hO8 hX9
  go_wp2_with fail
  refine calls_name (fun w9 => PoolAt w9 A 2 _ _ _ 1 ∧ Only [] w w9) ⟨hP9.only (Only.alloc [] _ _) (by simp), hO9.trans (Only.alloc _ _ _)⟩ ?_
  generalize w9.heap.size = S23
  clear hP9 hO9 w9
  rintro w9 ⟨hP9, hO9⟩
  refine (pool_read_err A 2 _ _ _ 1 (wd 1 2) 103 1 _ hP9 (misses_bad HB2.out) rfl).mono ?_
  rintro e w10 ⟨rfl, hP10, hX10⟩
  have hO10 := hO9.past hX10 (fun k hk => Or.inr (HA.out k hk))
  have hP11 := hP10.only (Only.alloc [] _ (.cells #[.int .i64 0, .int .i64 0, .int .i64 0, .int .i64 0] 43)) (by simp)
  have HP11 := Lib.hid hP11
  have HO11 := Lib.hid (hO10.trans (Only.alloc [] _ (.cells #[.int .i64 0, .int .i64 0, .int .i64 0, .int .i64 0] 43)))
  clear hP9 hO9 hX10 hP10 hP11 hO10
  go_wp2_with (first | (go_at_call 10; refine (num_any _ _).mono ?_; rintro e w' ⟨rfl, rfl⟩) | (go_at_call 16; refine (pool_faults A 2 _ _ _ 1 _ HP11.out).mono ?_; rintro e w' ⟨rfl, rfl⟩))
  go_ret
  exact ⟨rfl, HO11.out⟩

end Go.Proofs.YtpknnamficegbaaGreatDoor

