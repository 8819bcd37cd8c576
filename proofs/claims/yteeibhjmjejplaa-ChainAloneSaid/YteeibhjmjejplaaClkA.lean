/- The clock's New, Now, is, begins, Release, Holds as calls: what they return and which cells they write. Condition: the clock's two blocks stand in memory as ClkAt says. -/
import Derived.Test.YteeibhjmjejplaaAtom
import Derived.Deep.OwnRows
import Derived.Deep.LoopGhost
namespace Go.Proofs.Yteeibhjmjejplaa
open Go.RowKit

/-- A clock at block b: the stamp n that is now; its leases' words ls in block q. -/
structure ClkAt (w : World) (b q : Nat) (n : Int) (ls : List Int) : Prop where
  head : Blk w b #[.int .i64 n, .slice (some ⟨q, 0, none⟩) ls.length ls.length] 75
  row : Blk w q (ls.map (Value.int .i64)).toArray 70
  apart : b ≠ q

theorem ClkAt.only {S : List Nat} {w w' : World} {b q : Nat} {n : Int} {ls : List Int} (h : ClkAt w b q n ls) (o : Only S w w') (hb : b ∉ S) (hq : q ∉ S) : ClkAt w' b q n ls :=
  ⟨h.head.only o hb, h.row.only o hq, h.apart⟩

theorem ClkAt.now {w : World} {b q : Nat} {n : Int} {ls : List Int} (h : ClkAt w b q n ls) : w.cell? ⟨b, 0, none⟩ = some (.int .i64 n) := h.head.cell 0 rfl
theorem ClkAt.sl {w : World} {b q : Nat} {n : Int} {ls : List Int} (h : ClkAt w b q n ls) : w.cell? ⟨b, 1, none⟩ = some (.slice (some ⟨q, 0, none⟩) ls.length ls.length) := h.head.cell 1 rfl
theorem ClkAt.at {w : World} {b q : Nat} {n : Int} {ls : List Int} (h : ClkAt w b q n ls) {i : Nat} (hi : i < ls.length) : w.cell? ⟨q, i, none⟩ = some (.int .i64 (ls.getD i 0)) := by
  refine h.row.cell i ?_
  simp [List.getElem?_eq_getElem hi, List.getD]

theorem ClkAt.setNow {w : World} {b q : Nat} {n : Int} {ls : List Int} (h : ClkAt w b q n ls) (m : Int) : ClkAt (w.setCell ⟨b, 0, none⟩ (.int .i64 m)) b q m ls := by
  refine ⟨?_, h.row.set_other (fun e => h.apart e.symm) _, h.apart⟩
  have := h.head.set_same 0 (.int .i64 m)
  simpa using this

theorem ClkAt.setAt {w : World} {b q : Nat} {n : Int} {ls : List Int} (h : ClkAt w b q n ls) (i : Nat) (m : Int) : ClkAt (w.setCell ⟨q, i, none⟩ (.int .i64 m)) b q n (ls.set i m) := by
  refine ⟨?_, ?_, h.apart⟩
  · have := h.head.set_other (a := ⟨q, i, none⟩) h.apart (.int .i64 m)
    simpa using this
  · have := h.row.set_same i (.int .i64 m)
    simpa [List.map_set] using this

set_option maxHeartbeats 400000 in
theorem clock_new_bad (n : Int) (h : ¬ (1 ≤ n ∧ n ≤ 64)) (w : World) : Calls Try.prog 6 #[.int .i64 n] w fun e w' => e = .returned (.tuple #[.pointer none, .int .i64 131]) ∧ w = w' := by
  by_cases h1 : n < 1
  · go_enter Try.func6, Try.ntmps6
    go_wp2
    go_ret2
    exact ⟨rfl, rfl⟩
  · have h2 : 64 < n := by omega
    go_enter Try.func6, Try.ntmps6
    go_wp2
    go_ret2
    exact ⟨rfl, rfl⟩

set_option maxHeartbeats 400000 in
theorem clock_new (n : Nat) (h1 : 1 ≤ n) (h2 : n ≤ 64) (w : World) : Calls Try.prog 6 #[.int .i64 n] w fun e w' => e = .returned (.tuple #[.pointer (some ⟨w.heap.size + 1, 0, none⟩), .int .i64 0]) ∧ ClkAt w' (w.heap.size + 1) w.heap.size 1 (List.replicate n 0) ∧ Only [] w w' := by
  have hmk := make_atomics n (by omega)
  go_enter Try.func6, Try.ntmps6
  go_wp2_with fail
  refine calls_name (fun w1 => ClkAt w1 (w.heap.size + 1) w.heap.size 0 (List.replicate n 0) ∧ Only [] w w1) ⟨⟨?_, ?_, by omega⟩, ?_⟩ ?_
  · have := Blk.new (w.alloc (.cells ((List.replicate n (0 : Int)).map (Value.int .i64)).toArray 70)) #[.int .i64 0, .slice (some ⟨w.heap.size, 0, none⟩) n n] 75
    simpa using this
  · have := (Blk.new w ((List.replicate n (0 : Int)).map (Value.int .i64)).toArray 70).alloc (.cells #[.int .i64 0, .slice (some ⟨w.heap.size, 0, none⟩) n n] 75)
    simpa using this
  · exact (Only.alloc [] w _).trans (Only.alloc [] _ _)
  rintro w1 ⟨hC, hO⟩
  refine (store_any _ _ 1 _ hC.now (hC.head.free 0)).mono ?_
  rintro e w' ⟨rfl, rfl⟩
  go_wp2_with fail
  go_ret2
  exact ⟨rfl, hC.setNow 1, hO.past (Only.setCell (S := [w.heap.size + 1]) w1 (a := ⟨w.heap.size + 1, 0, none⟩) (by simp) _) (by simp)⟩

set_option maxHeartbeats 400000 in
theorem clock_now (b q : Nat) (n : Int) (ls : List Int) (w : World) (h : ClkAt w b q n ls) : Calls Try.prog 36 #[.pointer (some ⟨b, 0, none⟩), .pointer none] w fun e w' => e = .returned (.int .i64 n) ∧ w = w' := by
  go_enter Try.func36, Try.ntmps36
  go_wp2_with fail
  refine (step_nil _).mono ?_
  rintro e w' ⟨rfl, rfl⟩
  go_wp2_with fail
  refine (load_any _ n _ h.now).mono ?_
  rintro e w' ⟨rfl, rfl⟩
  go_wp2_with fail
  go_ret
  exact ⟨rfl, rfl⟩

set_option maxHeartbeats 400000 in
theorem clock_is (b q : Nat) (n : Int) (ls : List Int) (i : Int) (w : World) (h : ClkAt w b q n ls) : Calls Try.prog 38 #[.pointer (some ⟨b, 0, none⟩), .int .i64 i] w fun e w' => e = .returned (.bool (decide (0 ≤ i ∧ i < ls.length))) ∧ w = w' := by
  have hs := h.sl
  by_cases h0 : 0 ≤ i
  · by_cases h1 : i < ls.length
    · go_enter Try.func38, Try.ntmps38
      go_wp2
      go_ret
      exact ⟨by simp <;> omega, rfl⟩
    · have h1' : decide (i < (ls.length : Int)) = false := by simpa using h1
      go_enter Try.func38, Try.ntmps38
      go_wp2
      go_ret
      exact ⟨by simp <;> omega, rfl⟩
  · go_enter Try.func38, Try.ntmps38
    go_wp2
    go_ret
    exact ⟨by simp <;> omega, rfl⟩

set_option maxHeartbeats 400000 in
theorem clock_begins (b q : Nat) (n : Int) (ls : List Int) (k : Nat) (w : World) (h : ClkAt w b q n ls) (hl : ls.length ≤ 64) (hk : k < ls.length) (hz : ls.getD k 0 = 0) (hp : ∀ j, j < k → ¬ ls.getD j 0 = 0) :
    Calls Try.prog 35 #[.pointer (some ⟨b, 0, none⟩), .pointer none] w fun e w' => e = .returned (.int .i64 k) ∧ w.setCell ⟨q, k, none⟩ (.int .i64 1) = w' := by
  have hs := h.sl
  have HZ := Lib.hid hz
  clear hz
  go_enter Try.func35, Try.ntmps35
  go_wp2_with fail
  go_loop [11] (fun t => ∃ i : Nat, i ≤ k ∧ t = .int .i64 i) (fun t => k - (intOf t).toNat)
  case atStart => exact ⟨0, Nat.zero_le _, rfl⟩
  case round =>
    obtain ⟨i, hi, rfl⟩ := hrel
    have hlt : i < ls.length := by omega
    have hci := h.at hlt
    go_wp2_with fail
    refine (step_nil _).mono ?_
    rintro e w' ⟨rfl, rfl⟩
    go_wp2_with fail
    by_cases hik : i = k
    · obtain rfl := hik
      rw [HZ.out] at hci
      refine (cas_hit _ 0 1 _ hci (h.row.free _)).mono ?_
      rintro e w' ⟨rfl, rfl⟩
      go_wp2_with fail
      go_ret
      exact ⟨rfl, rfl⟩
    · refine (cas_miss _ _ 0 1 _ hci (h.row.free _) (hp i (by omega))).mono ?_
      rintro e w' ⟨rfl, rfl⟩
      go_wp2_with fail
      go_round
      case rel => exact ⟨i + 1, by omega, by go_num⟩
      case measure => simp [intOf]; omega

set_option maxHeartbeats 400000 in
theorem clock_begins_none (b q : Nat) (n : Int) (ls : List Int) (w : World) (h : ClkAt w b q n ls) (hl : ls.length ≤ 64) (hp : ∀ j, j < ls.length → ¬ ls.getD j 0 = 0) :
    Calls Try.prog 35 #[.pointer (some ⟨b, 0, none⟩), .pointer none] w fun e w' => e = .returned (.int .i64 (-1)) ∧ w = w' := by
  have hs := h.sl
  go_enter Try.func35, Try.ntmps35
  go_wp2_with fail
  go_loop [11] (fun t => ∃ i : Nat, i ≤ ls.length ∧ t = .int .i64 i) (fun t => ls.length - (intOf t).toNat)
  case atStart => exact ⟨0, Nat.zero_le _, rfl⟩
  case round =>
    obtain ⟨i, hi, rfl⟩ := hrel
    by_cases hlt : i < ls.length
    · have hci := h.at hlt
      go_wp2_with fail
      refine (step_nil _).mono ?_
      rintro e w' ⟨rfl, rfl⟩
      go_wp2_with fail
      refine (cas_miss _ _ 0 1 _ hci (h.row.free _) (hp i hlt)).mono ?_
      rintro e w' ⟨rfl, rfl⟩
      go_wp2_with fail
      go_round
      case rel => exact ⟨i + 1, by omega, by go_num⟩
      case measure => simp [intOf]; omega
    · go_wp2_with fail
      go_ret
      exact ⟨rfl, rfl⟩

set_option maxHeartbeats 400000 in
theorem clock_take (b q : Nat) (n : Int) (ls : List Int) (k : Nat) (w : World) (h : ClkAt w b q n ls) (hn : 0 ≤ n ∧ n ≤ 1000000) (hl : ls.length ≤ 64) (hk : k < ls.length) (hz : ls.getD k 0 = 0) (hp : ∀ j, j < k → ¬ ls.getD j 0 = 0) :
    Calls Try.prog 14 #[.pointer (some ⟨b, 0, none⟩), .pointer none] w fun e w' => e = .returned (.tuple #[.agg #[.int .i64 k, .int .i64 n], .int .i64 0]) ∧ ClkAt w' b q (n + 1) (ls.set k (n + 1)) ∧ Only [b, q] w w' := by
  have HZ := Lib.hid hz
  clear hz
  obtain ⟨hn0, hn1⟩ := hn
  go_enter Try.func14, Try.ntmps14
  go_wp2_with fail
  refine wp_name (fun w1 => ClkAt w1 b q n ls ∧ Blk w1 w.heap.size #[.int .i64 0, .int .i64 0] 52 ∧ Only [] w w1 ∧ w1.heap.size = w.heap.size + 1) ⟨?_, Blk.new _ _ _, Only.alloc _ _ _, by simp⟩ ?_
  · exact h.only (Only.alloc [] _ _) (by simp) (by simp)
  rintro w1 ⟨hC, hB, hO, hsz⟩
  have hbl := h.head.lt
  have hql := h.row.lt
  go_step3
  go_wp2_with fail
  refine (clock_begins b q n ls k _ hC hl hk HZ.out hp).mono ?_
  rintro e w' ⟨rfl, rfl⟩
  have hk0 : 0 ≤ (k : Int) := by omega
  go_wp2_with fail
  refine calls_name (fun w2 => ClkAt w2 b q n (ls.set k 1) ∧ Only [b, q] w1 w2) ⟨hC.setAt k 1, Only.setCell _ (by simp) _⟩ ?_
  rintro w2 ⟨hC2, hO2⟩
  have hs2 := hC2.sl
  rw [List.length_set] at hs2
  refine (clock_now b q n _ _ hC2).mono ?_
  rintro e w' ⟨rfl, rfl⟩
  go_wp2_with fail
  go_step3
  go_wp2_with fail
  refine (step_nil _).mono ?_
  rintro e w' ⟨rfl, rfl⟩
  go_wp2_with fail
  have hkl : k < (ls.set k 1).length := by rw [List.length_set]; exact hk
  refine (store_any _ _ (n + 1) _ (hC2.at hkl) (hC2.row.free _)).mono ?_
  rintro e w' ⟨rfl, rfl⟩
  go_wp2_with fail
  refine calls_name (fun w3 => ClkAt w3 b q n (ls.set k (n + 1)) ∧ Only [b, q] w2 w3) ⟨by simpa using hC2.setAt k (n + 1), Only.setCell _ (by simp) _⟩ ?_
  rintro w3 ⟨hC3, hO3⟩
  refine (clock_now b q n _ _ hC3).mono ?_
  rintro e w' ⟨rfl, rfl⟩
  go_wp2_with fail
  refine (step_nil _).mono ?_
  rintro e w' ⟨rfl, rfl⟩
  go_wp2_with fail
  refine (cas_hit _ n (n + 1) _ hC3.now (hC3.head.free _)).mono ?_
  rintro e w4 ⟨rfl, hw⟩
  have hC4 : ClkAt w4 b q (n + 1) (ls.set k (n + 1)) := hw ▸ hC3.setNow (n + 1)
  have hO4 : Only [b, q] w3 w4 := hw ▸ Only.setCell _ (by simp) _
  clear hw
  have hnew : w.heap.size ∉ [b, q] := by simp; omega
  have hB4 := ((hB.only hO2 hnew).only hO3 hnew).only hO4 hnew
  have hO5 : Only [b, q] w w4 := (((hO.mono (by simp)).trans hO2).trans hO3).trans hO4
  have hr0 := hB4.cell 0 rfl
  have hr1 := hB4.cell 1 rfl
  have hf0 := hB4.free 0
  have hf1 := hB4.free 1
  go_wp2_with fail
  rw [Exit.noGoto_ret]
  refine bodyPost_ret (v := .tuple #[.agg #[.int .i64 k, .int .i64 n], .int .i64 0]) (by simp [results, Try.results14, go_sem, hr0, hr1]) rfl ⟨rfl, ?_, ?_⟩
  · exact hC4.only (((Only.setCell (S := [w.heap.size]) w4 (a := ⟨w.heap.size, 0, none⟩) (by simp) _)).trans (Only.setCell _ (by simp) _)) (by simp; omega) (by simp; omega)
  · exact hO5.past (((Only.setCell (S := [w.heap.size]) w4 (a := ⟨w.heap.size, 0, none⟩) (by simp) _)).trans (Only.setCell _ (by simp) _)) (by simp)

set_option maxHeartbeats 400000 in
theorem clock_take_none (b q : Nat) (n : Int) (ls : List Int) (w : World) (h : ClkAt w b q n ls) (hl : ls.length ≤ 64) (hp : ∀ j, j < ls.length → ¬ ls.getD j 0 = 0) :
    Calls Try.prog 14 #[.pointer (some ⟨b, 0, none⟩), .pointer none] w fun e w' => e = .returned (.tuple #[.agg #[.int .i64 0, .int .i64 0], .int .i64 132]) ∧ Only [] w w' := by
  go_enter Try.func14, Try.ntmps14
  go_wp2_with fail
  refine wp_name (fun w1 => ClkAt w1 b q n ls ∧ Blk w1 w.heap.size #[.int .i64 0, .int .i64 0] 52 ∧ Only [] w w1) ⟨?_, Blk.new _ _ _, Only.alloc _ _ _⟩ ?_
  · exact h.only (Only.alloc [] _ _) (by simp) (by simp)
  rintro w1 ⟨hC, hB, hO⟩
  have hr0 := hB.cell 0 rfl
  have hr1 := hB.cell 1 rfl
  have hf0 := hB.free 0
  have hf1 := hB.free 1
  go_step3
  go_wp2_with fail
  refine (clock_begins_none b q n ls _ hC hl hp).mono ?_
  rintro e w' ⟨rfl, rfl⟩
  go_wp2_with fail
  rw [Exit.noGoto_ret]
  refine bodyPost_ret (v := .tuple #[.agg #[.int .i64 0, .int .i64 0], .int .i64 132]) (by simp [results, Try.results14, go_sem, hr0, hr1]) rfl ⟨rfl, ?_⟩
  exact hO.past (((Only.setCell (S := [w.heap.size]) w1 (a := ⟨w.heap.size, 0, none⟩) (by simp) _)).trans (Only.setCell _ (by simp) _)) (by simp)

set_option maxHeartbeats 400000 in
theorem clock_release_bad (b q : Nat) (n : Int) (ls : List Int) (i : Int) (w : World) (h : ClkAt w b q n ls) (hi : ¬ (0 ≤ i ∧ i < ls.length)) :
    Calls Try.prog 15 #[.pointer (some ⟨b, 0, none⟩), .pointer none, .int .i64 i] w fun e w' => e = .returned (.int .i64 133) ∧ w = w' := by
  go_enter Try.func15, Try.ntmps15
  go_wp2_with fail
  refine (step_nil _).mono ?_
  rintro e w' ⟨rfl, rfl⟩
  go_wp2_with fail
  refine (clock_is b q n ls i _ h).mono ?_
  rintro e w' ⟨rfl, rfl⟩
  rw [decide_eq_false hi]
  go_wp2_with fail
  go_ret
  exact ⟨rfl, rfl⟩

set_option maxHeartbeats 400000 in
theorem clock_release_free (b q : Nat) (n : Int) (ls : List Int) (i : Nat) (w : World) (h : ClkAt w b q n ls) (hi : i < ls.length) (hz : ls.getD i 0 = 0) :
    Calls Try.prog 15 #[.pointer (some ⟨b, 0, none⟩), .pointer none, .int .i64 i] w fun e w' => e = .returned (.int .i64 133) ∧ ClkAt w' b q n ls ∧ Only [q] w w' := by
  have hs := h.sl
  have hci := h.at hi
  rw [hz] at hci
  have hset : ls.set i 0 = ls := by
    apply List.ext_getElem
    · simp
    · intro j h1 h2
      rw [List.getElem_set]
      split
      · rename_i hj
        obtain rfl := hj
        simpa [List.getD, List.getElem?_eq_getElem hi] using hz.symm
      · rfl
  have HS := Lib.hid hset
  clear hset hz
  go_enter Try.func15, Try.ntmps15
  go_wp2_with fail
  refine (step_nil _).mono ?_
  rintro e w' ⟨rfl, rfl⟩
  go_wp2_with fail
  refine (clock_is b q n ls i _ h).mono ?_
  rintro e w' ⟨rfl, rfl⟩
  rw [decide_eq_true (by omega)]
  go_wp2_with fail
  refine (swap_any _ 0 0 _ hci (h.row.free _)).mono ?_
  rintro e w1 ⟨rfl, hw⟩
  have hC : ClkAt w1 b q n ls := by
    have := h.setAt i 0
    rw [HS.out, hw] at this
    exact this
  have hO : Only [q] w w1 := hw ▸ Only.setCell _ (by simp) _
  clear hw
  go_wp2_with fail
  go_ret
  exact ⟨rfl, hC, hO⟩

set_option maxHeartbeats 400000 in
theorem clock_release (b q : Nat) (n : Int) (ls : List Int) (i : Nat) (w : World) (h : ClkAt w b q n ls) (hi : i < ls.length) (hz : ¬ ls.getD i 0 = 0) :
    Calls Try.prog 15 #[.pointer (some ⟨b, 0, none⟩), .pointer none, .int .i64 i] w fun e w' => e = .returned (.int .i64 0) ∧ ClkAt w' b q n (ls.set i 0) ∧ Only [q] w w' := by
  have hs := h.sl
  have hci := h.at hi
  have hz' : (ls.getD i 0 == 0) = false := by simpa using hz
  clear hz
  generalize ls.getD i 0 = x at hci hz'
  go_enter Try.func15, Try.ntmps15
  go_wp2_with fail
  refine (step_nil _).mono ?_
  rintro e w' ⟨rfl, rfl⟩
  go_wp2_with fail
  refine (clock_is b q n ls i _ h).mono ?_
  rintro e w' ⟨rfl, rfl⟩
  rw [decide_eq_true (by omega)]
  go_wp2_with fail
  refine (swap_any _ x 0 _ hci (h.row.free _)).mono ?_
  rintro e w1 ⟨rfl, hw⟩
  have hC : ClkAt w1 b q n (ls.set i 0) := hw ▸ h.setAt i 0
  have hO : Only [q] w w1 := hw ▸ Only.setCell _ (by simp) _
  clear hw
  go_wp2_with fail
  go_ret
  exact ⟨rfl, hC, hO⟩


end Go.Proofs.Yteeibhjmjejplaa
