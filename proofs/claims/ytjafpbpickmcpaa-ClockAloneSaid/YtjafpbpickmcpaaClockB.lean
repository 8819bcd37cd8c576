/- The clock's Least and Leases as calls. Conditions: as in ClkAt; the leases' words lie between 0 and 1000001. -/
import Derived.Test.YtjafpbpickmcpaaClockA
namespace Go.Proofs.Ytjafpbpickmcpaa
open Go.RowKit

def leastL (n : Int) (ls : List Int) : Int := ls.foldl (fun m x => if x = 0 then m else if x - 1 < m then x - 1 else m) n

theorem leastL_snoc (n : Int) (ls : List Int) (x : Int) : leastL n (ls ++ [x]) = if x = 0 then leastL n ls else if x - 1 < leastL n ls then x - 1 else leastL n ls := by
  unfold leastL
  rw [List.foldl_append]
  rfl

theorem take_snoc_getD (ls : List Int) (i : Nat) (hi : i < ls.length) : ls.take (i + 1) = ls.take i ++ [ls.getD i 0] := by
  rw [List.take_succ_eq_append_getElem hi]
  simp [List.getD, List.getElem?_eq_getElem hi]

set_option maxHeartbeats 400000 in
theorem clock_least (b q : Nat) (n : Int) (ls : List Int) (w : World) (h : ClkAt w b q n ls) (hl : ls.length ≤ 64) (hb : ∀ x, x ∈ ls → 0 ≤ x ∧ x ≤ 1000001) :
    Calls Try.prog 9 #[.pointer (some ⟨b, 0, none⟩), .pointer none] w fun e w' => e = .returned (.int .i64 (leastL n ls)) ∧ w = w' := by
  have hs := h.sl
  go_enter Try.func9, Try.ntmps9
  go_wp2_with fail
  refine (clock_now b q n ls _ h).mono ?_
  rintro e w' ⟨rfl, rfl⟩
  go_wp2_with fail
  go_loop [5, 16] (fun m t => ∃ i : Nat, i ≤ ls.length ∧ t = .int .i64 i ∧ m = .int .i64 (leastL n (ls.take i))) (fun _ t => ls.length - (intOf t).toNat)
  case atStart => exact ⟨0, Nat.zero_le _, rfl, rfl⟩
  case round =>
    obtain ⟨i, hi, rfl, rfl⟩ := hrel
    by_cases hlt : i < ls.length
    · have hci := h.at hlt
      have hx := hb (ls.getD i 0) (by simp [List.getD, List.getElem?_eq_getElem hlt])
      have hsn := leastL_snoc n (ls.take i) (ls.getD i 0)
      rw [← take_snoc_getD ls i hlt] at hsn
      have HS := Lib.hid hsn
      clear hsn
      generalize ls.getD i 0 = x at hci hx HS
      generalize leastL n (ls.take i) = m at HS
      obtain ⟨hx0, hx1⟩ := hx
      go_wp2_with fail
      refine (step_nil _).mono ?_
      rintro e w' ⟨rfl, rfl⟩
      go_wp2_with fail
      refine (load_any _ x _ hci).mono ?_
      rintro e w' ⟨rfl, rfl⟩
      by_cases hx2 : x = 0
      · obtain rfl := hx2
        go_wp2_with fail
        go_round
        case rel => exact ⟨i + 1, by omega, by go_num, by rw [HS.out]; rfl⟩
        case measure => simp [intOf]; omega
      · have hne : (x != 0) = true := by simpa using hx2
        go_wp2_with fail
        go_round
        case rel => exact ⟨i + 1, by omega, by go_num, by rw [HS.out, if_neg hx2]⟩
        case measure => simp [intOf]; omega
    · go_wp2_with fail
      go_ret
      exact ⟨by rw [List.take_of_length_le (by omega)]; rfl, rfl⟩

theorem info_int : (Try.prog.info? 3).map (fun i => (i.zero, i.size, i.bytes)) = some (some (.int .i64 0), 1, 8) := by kernel_rfl

set_option maxHeartbeats 400000 in
theorem clock_leases (b q : Nat) (n : Int) (ls : List Int) (w : World) (h : ClkAt w b q n ls) (hl : ls.length ≤ 64) :
    Calls Try.prog 11 #[.pointer (some ⟨b, 0, none⟩)] w fun e w' => ∃ v, e = .returned v ∧ w'.ownsRow w.heap.size 3 1 v ls.length (ls.map (Value.int .i64)) ∧ Only [] w w' := by
  have hs := h.sl
  have hbl := h.head.lt
  have hql := h.row.lt
  obtain ⟨i0, hi0, hz0, hz1, hz2⟩ := info_parts info_int
  go_enter Try.func11, Try.ntmps11
  go_wp2_with fail
  go_loopw [3, 10] (fun v t wr => ∃ i : Nat, i ≤ ls.length ∧ t = .int .i64 i ∧ wr.ownsRow w.heap.size 3 1 v i ((ls.take i).map (Value.int .i64)) ∧ Only [] w wr) (fun _ t _ => ls.length - (intOf t).toNat)
  case atStart => exact ⟨0, Nat.zero_le _, rfl, World.ownsRow_nil _ _ _ _, Only.refl _ _⟩
  case round =>
    obtain ⟨i, hi, rfl, hown, hO⟩ := hrel
    have hC := h.only hO (by simp) (by simp)
    have hsr := hC.sl
    have hsz := hO.size
    by_cases hlt : i < ls.length
    · have hci := hC.at hlt
      have hsn := congrArg (List.map (Value.int .i64)) (take_snoc_getD ls i hlt)
      rw [List.map_append, List.map_cons, List.map_nil] at hsn
      have HS := Lib.hid hsn
      clear hsn
      generalize ls.getD i 0 = x at hci HS
      generalize (ls.take i).map (Value.int .i64) = xs at hown HS
      go_wp2_with fail
      refine (load_any _ x _ hci).mono ?_
      rintro e w' ⟨rfl, rfl⟩
      go_wp2_with (at_builtin; refine wpList_append_own _ rfl (.tmp 13) (.tmp 21) 22 rfl w.heap.size 3 i0 (.int .i64 0) 1 8 Try.underlying22 hi0 hz0 hz1 hz2 rfl (by decide) _ _ _ rfl (hown.alloc _) ⟨wr.heap.size, 0, none⟩ 1 1 [.int .i64 x] rfl rfl (cell_one_new _ _ _) (fun u hu => by simp at hu; subst hu; rfl) (by unfold maxLen; omega) (by omega) (by simp; omega) ?_)
      intro v' w1 hown1 hg1 _
      rw [← HS.out] at hown1
      have hO1 : Only [] w w1 := hO.appended hown (Nat.le_refl _) hg1
      clear hg1
      go_wp2_with fail
      go_roundw
      case rel => exact ⟨i + 1, by omega, by go_num, hown1, hO1⟩
      case measure => simp [intOf]; omega
    · have hE : i = ls.length := by omega
      have hown' := hown
      rw [hE, List.take_length] at hown'
      clear hown hE
      go_wp2_with fail
      go_ret
      exact ⟨_, rfl, hown', hO⟩
end Go.Proofs.Ytjafpbpickmcpaa
