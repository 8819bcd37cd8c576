/- The statement's own first look at the clock (known): it returns true and writes nothing that was there. No condition. -/
import Derived.Test.YtjafpbpickmcpaaClockB
namespace Go.Proofs.Ytjafpbpickmcpaa
open Go.RowKit

set_option maxHeartbeats 1000000 in
theorem clock_known (w : World) : Calls Try.prog 4 #[] w fun e w' => e = .returned (.bool true) ∧ Only [] w w' := by
  go_enter Try.func4, Try.ntmps4
  go_wp2_with fail
  refine (clock_new 2 (by omega) (by omega) w).mono ?_
  rintro e w1 ⟨rfl, hC, hO⟩
  have hge : w.heap.size ≤ w.heap.size := Nat.le_refl _
  obtain ⟨b, hb⟩ : ∃ b, b = w.heap.size + 1 := ⟨_, rfl⟩
  obtain ⟨q, hq⟩ : ∃ q, q = w.heap.size := ⟨_, rfl⟩
  rw [← hb, ← hq] at hC
  rw [← hb]
  have hbl : w.heap.size ≤ b := by omega
  have hql : w.heap.size ≤ q := by omega
  have Hq := Lib.hid hq
  clear hb hq hge
  have hbq : ∀ i, i ∈ [b, q] → i ∈ ([] : List Nat) ∨ w.heap.size ≤ i := by intro i hi; right; simp at hi; omega
  go_wp2_with fail
  refine (clock_take b q 1 _ 0 _ hC (by omega) (by simp) (by simp) (by simp) (by simp)).mono ?_
  rintro e w2 ⟨rfl, hC2, hX2⟩
  have hO2 := hO.past hX2 hbq
  clear hX2
  have hz2 := hO2.size
  obtain ⟨A, hA⟩ : ∃ A, A = w2.heap.size := ⟨_, rfl⟩
  have hAl : w.heap.size ≤ A := by omega
  have hAb : b < A ∧ q < A := by have := hC2.head.lt; have := hC2.row.lt; omega
  go_wp2_with fail
  rw [← hA]
  refine calls_name (fun w3 => ClkAt w3 b q 2 [2, 0] ∧ Blk w3 A #[.int .i64 0, .int .i64 1] 29 ∧ Only [] w w3) ⟨?_, ?_, ?_⟩ ?_
  · exact hC2.only (Only.alloc [] _ _) (by simp) (by simp)
  · rw [hA]; exact Blk.new _ _ _
  · exact hO2.trans (Only.alloc [] _ _)
  clear hA hC2 hO2 hC hz2 w2 hO w1
  rintro w3 ⟨hC, hA, hO⟩
  have hAq : A ∉ [b, q] := by simp; omega
  refine (clock_take b q 2 _ 1 _ hC (by omega) (by simp) (by simp) (by simp) (by intro j hj; have hj0 : j = 0 := (by omega); subst hj0; simp)).mono ?_
  rintro e w2 ⟨rfl, hC2, hX2⟩
  have hA2 := hA.only hX2 hAq
  have hO2 := hO.past hX2 hbq
  clear hX2
  have hz2 := hO2.size
  obtain ⟨B, hB⟩ : ∃ B, B = w2.heap.size := ⟨_, rfl⟩
  have hBl : w.heap.size ≤ B := by omega
  have hBb : b < B ∧ q < B ∧ A < B := by have := hC2.head.lt; have := hC2.row.lt; have := hA2.lt; omega
  go_wp2_with fail
  rw [← hB]
  refine calls_name (fun w3 => ClkAt w3 b q 3 [2, 3] ∧ Blk w3 A #[.int .i64 0, .int .i64 1] 29 ∧ Blk w3 B #[.int .i64 1, .int .i64 2] 29 ∧ Only [] w w3) ⟨?_, ?_, ?_, ?_⟩ ?_
  · exact hC2.only (Only.alloc [] _ _) (by simp) (by simp)
  · exact hA2.alloc _
  · rw [hB]; exact Blk.new _ _ _
  · exact hO2.trans (Only.alloc [] _ _)
  clear hB hC2 hO2 hC hz2 hA2 hA hO w2 w3
  rintro w3 ⟨hC, hA, hB, hO⟩
  have hBq : B ∉ [b, q] := by simp; omega
  refine (clock_take_none b q 3 _ _ hC (by simp) (by intro j hj; simp at hj; have : j = 0 ∨ j = 1 := by omega
                                                     rcases this with rfl | rfl <;> simp)).mono ?_
  rintro e w2 ⟨rfl, hX2⟩
  have hC2 := hC.only hX2 (by simp) (by simp)
  have hA2 := hA.only hX2 (by simp)
  have hB2 := hB.only hX2 (by simp)
  have hO2 := hO.trans hX2
  clear hX2
  have a0 := fun o => (hA2.alloc o).cell 0 rfl
  have a1 := fun o => (hA2.alloc o).cell 1 rfl
  have b0 := fun o => (hB2.alloc o).cell 0 rfl
  have b1 := fun o => (hB2.alloc o).cell 1 rfl
  clear hC hA hB hO
  go_wp2_with fail
  refine calls_name (fun w3 => ClkAt w3 b q 3 [2, 3] ∧ Blk w3 A #[.int .i64 0, .int .i64 1] 29 ∧ Blk w3 B #[.int .i64 1, .int .i64 2] 29 ∧ Only [] w w3) ⟨hC2.only (Only.alloc [] _ _) (by simp) (by simp), hA2.alloc _, hB2.alloc _, hO2.trans (Only.alloc [] _ _)⟩ ?_
  clear a0 a1 b0 b1 hC2 hA2 hB2 hO2 w3
  generalize w2.heap.size = C7
  clear w2
  rintro w3 ⟨hC, hA, hB, hO⟩
  refine (clock_least b q 3 _ _ hC (by simp) (by simp)).mono ?_
  rintro e w' ⟨rfl, rfl⟩
  rw [show leastL 3 [2, 3] = 1 from rfl]
  go_wp2_with fail
  refine (clock_now b q 3 _ _ hC).mono ?_
  rintro e w' ⟨rfl, rfl⟩
  go_wp2_with fail
  refine (clock_release b q 3 _ 0 _ hC (by simp) (by simp)).mono ?_
  rintro e w2 ⟨rfl, hC2, hX2⟩
  have hqn : A ∉ [q] ∧ B ∉ [q] := by simp; omega
  have hA2 := hA.only hX2 hqn.1
  have hB2 := hB.only hX2 hqn.2
  have hO2 := hO.past hX2 (by intro i hi; right; simp at hi; omega)
  clear hC hA hB hO hX2
  go_wp2_with fail
  refine (clock_release_free b q 3 _ 0 _ hC2 (by simp) (by simp)).mono ?_
  rintro e w4 ⟨rfl, hC4, hX4⟩
  have hA4 := hA2.only hX4 hqn.1
  have hB4 := hB2.only hX4 hqn.2
  have hO4 := hO2.past hX4 (by intro i hi; right; simp at hi; omega)
  clear hC2 hA2 hB2 hO2 hX4
  have a0 := hA4.cell 0 rfl
  have a1 := hA4.cell 1 rfl
  have b0 := hB4.cell 0 rfl
  have b1 := hB4.cell 1 rfl
  go_wp2_with fail
  refine (clock_least b q 3 _ _ hC4 (by simp) (by simp)).mono ?_
  rintro e w' ⟨rfl, rfl⟩
  rw [show leastL 3 ([2, 3].set 0 0) = 2 from rfl]
  go_wp2_with fail
  refine (clock_holds_in b q 3 _ 1 2 3 _ hC4 (by simp) (by simp) (by simp) (by simp)).mono ?_
  rintro e w5 ⟨rfl, hX5⟩
  have hC5 := hC4.only hX5 (by simp) (by simp)
  have hA5 := hA4.only hX5 (by simp)
  have hO5 := hO4.trans hX5
  clear hX5 hC4 hA4 hB4 hO4 a0 a1 b0 b1
  have a0 := hA5.cell 0 rfl
  have a1 := hA5.cell 1 rfl
  go_wp2_with fail
  refine (clock_holds_in b q 3 _ 0 1 0 _ hC5 (by simp) (by simp) (by simp) (by simp)).mono ?_
  rintro e w6 ⟨rfl, hX6⟩
  go_wp2_with fail
  go_ret
  exact ⟨rfl, hO5.trans hX6⟩
end Go.Proofs.Ytjafpbpickmcpaa
