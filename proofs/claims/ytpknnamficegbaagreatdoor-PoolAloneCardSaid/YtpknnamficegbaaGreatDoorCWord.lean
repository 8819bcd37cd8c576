/- Words of an index and a tag: Pack, Index, Tag, Next as calls. Conditions: the index from 0 to 1048575, the tag from 0 to 1099511627775, where a contract says so. -/
import Derived.Test.YtpknnamficegbaaGreatDoorProg
import Derived.Test.YtpknnamficegbaaGreatDoorCLib
set_option linter.unusedVariables false
set_option linter.unusedSimpArgs false
set_option linter.unusedSectionVars false
set_option linter.unnecessarySimpa false
namespace Go.Proofs.YtpknnamficegbaaGreatDoor
open Go.RowKit

theorem wraps_i64 (n : Int) (h0 : 0 ≤ n) (h1 : n < 2 ^ 63) : IntKind.i64.wrap n = n := by rw [IntKind.wrap_i64]; omega

theorem and_tag (x : Int) (h0 : 0 ≤ x) (h1 : x ≤ 9223372036854775807) : bits .and .i64 x 1099511627775 = x % 1099511627776 :=
  bits_mask .i64 63 (by decide) wraps_i64 40 (by decide) x h0 (by omega)

theorem or_tag (x t : Int) (h0 : 0 ≤ x) (h1 : x ≤ 1048575) (t0 : 0 ≤ t) (t1 : t ≤ 1099511627775) : bits .or .i64 (x * 1099511627776) t = x * 1099511627776 + t :=
  bits_join .i64 63 (by decide) wraps_i64 40 _ _ (by omega) (by omega) (by omega) t0 (by omega) (by omega)

/-- The word of an index and a tag. -/
def wd (x t : Int) : Int := x * 1099511627776 + t
theorem wd_range {x t : Int} (h0 : 0 ≤ x) (h1 : x ≤ 1048575) (t0 : 0 ≤ t) (t1 : t ≤ 1099511627775) : 0 ≤ wd x t ∧ wd x t ≤ 1152921504606846975 := by unfold wd; omega
theorem wd_index {x t : Int} (t0 : 0 ≤ t) (t1 : t ≤ 1099511627775) : wd x t / 1099511627776 = x := by unfold wd; omega
theorem wd_tag {x t : Int} (t0 : 0 ≤ t) (t1 : t ≤ 1099511627775) : wd x t % 1099511627776 = t := by unfold wd; omega

set_option maxHeartbeats 400000 in
theorem is_word (x : Int) (w : World) : Calls Tryz.prog 113 #[.int .i64 x] w fun e w' => e = .returned (.bool (decide (0 ≤ x ∧ x ≤ 1152921504606846975))) ∧ w = w' := by
  by_cases h0 : 0 ≤ x
  · by_cases h1 : x ≤ 1152921504606846975
    · go_enter Tryz.func113, Tryz.ntmps113
      go_wp2
      go_ret
      exact ⟨by simp <;> omega, rfl⟩
    · have h2 : decide (x ≤ 1152921504606846975) = false := by simpa using h1
      go_enter Tryz.func113, Tryz.ntmps113
      go_wp2
      go_ret
      exact ⟨by simp <;> omega, rfl⟩
  · go_enter Tryz.func113, Tryz.ntmps113
    go_wp2
    go_ret
    exact ⟨by simp <;> omega, rfl⟩

set_option maxHeartbeats 400000 in
theorem word_index_bad (x : Int) (w : World) (h : ¬ (0 ≤ x ∧ x ≤ 1152921504606846975)) :
    Calls Tryz.prog 66 #[.int .i64 x] w fun e w' => e = .returned (.int .i64 0) ∧ w = w' := by
  go_enter Tryz.func66, Tryz.ntmps66
  go_wp2_with fail
  refine (is_word x _).mono ?_
  rintro e w' ⟨rfl, rfl⟩
  rw [decide_eq_false h]
  go_wp2_with fail
  go_ret
  exact ⟨rfl, rfl⟩

set_option maxHeartbeats 400000 in
theorem word_tag_bad (x : Int) (w : World) (h : ¬ (0 ≤ x ∧ x ≤ 1152921504606846975)) :
    Calls Tryz.prog 108 #[.int .i64 x] w fun e w' => e = .returned (.int .i64 0) ∧ w = w' := by
  go_enter Tryz.func108, Tryz.ntmps108
  go_wp2_with fail
  refine (is_word x _).mono ?_
  rintro e w' ⟨rfl, rfl⟩
  rw [decide_eq_false h]
  go_wp2_with fail
  go_ret
  exact ⟨rfl, rfl⟩

set_option maxHeartbeats 400000 in
theorem word_index (x : Int) (w : World) (h0 : 0 ≤ x) (h1 : x ≤ 1152921504606846975) :
    Calls Tryz.prog 66 #[.int .i64 x] w fun e w' => e = .returned (.int .i64 (x / 1099511627776)) ∧ w = w' := by
  go_enter Tryz.func66, Tryz.ntmps66
  go_wp2_with fail
  refine (is_word x _).mono ?_
  rintro e w' ⟨rfl, rfl⟩
  rw [decide_eq_true ⟨h0, h1⟩]
  go_wp2_with fail
  go_ret
  exact ⟨rfl, rfl⟩

set_option maxHeartbeats 400000 in
theorem word_tag (x : Int) (w : World) (h0 : 0 ≤ x) (h1 : x ≤ 1152921504606846975) :
    Calls Tryz.prog 108 #[.int .i64 x] w fun e w' => e = .returned (.int .i64 (x % 1099511627776)) ∧ w = w' := by
  have hb := and_tag x h0 (by omega)
  go_enter Tryz.func108, Tryz.ntmps108
  go_wp2_with fail
  refine (is_word x _).mono ?_
  rintro e w' ⟨rfl, rfl⟩
  rw [decide_eq_true ⟨h0, h1⟩]
  go_wp2_with fail
  go_ret
  exact ⟨rfl, rfl⟩

/-- What Index, Tag answer of any number. -/
def idxOf (h : Int) : Int := if 0 ≤ h ∧ h ≤ 1152921504606846975 then h / 1099511627776 else 0
def tagOf (h : Int) : Int := if 0 ≤ h ∧ h ≤ 1152921504606846975 then h % 1099511627776 else 0

theorem idxOf_wd {x t : Int} (h0 : 0 ≤ x) (h1 : x ≤ 1048575) (t0 : 0 ≤ t) (t1 : t ≤ 1099511627775) : idxOf (wd x t) = x := by
  unfold idxOf; rw [if_pos (wd_range h0 h1 t0 t1), wd_index t0 t1]
theorem tagOf_wd {x t : Int} (h0 : 0 ≤ x) (h1 : x ≤ 1048575) (t0 : 0 ≤ t) (t1 : t ≤ 1099511627775) : tagOf (wd x t) = t := by
  unfold tagOf; rw [if_pos (wd_range h0 h1 t0 t1), wd_tag t0 t1]
theorem idxOf_range (h : Int) : 0 ≤ idxOf h ∧ idxOf h ≤ 1048575 := by unfold idxOf; split <;> omega
theorem tagOf_range (h : Int) : 0 ≤ tagOf h ∧ tagOf h ≤ 1099511627775 := by unfold tagOf; split <;> omega

theorem word_idx (h : Int) (w : World) : Calls Tryz.prog 66 #[.int .i64 h] w fun e w' => e = .returned (.int .i64 (idxOf h)) ∧ w = w' := by
  by_cases hh : 0 ≤ h ∧ h ≤ 1152921504606846975
  · exact (word_index h w hh.1 hh.2).mono fun _ _ x => ⟨by rw [x.1, idxOf, if_pos hh], x.2⟩
  · exact (word_index_bad h w hh).mono fun _ _ x => ⟨by rw [x.1, idxOf, if_neg hh], x.2⟩

theorem word_tg (h : Int) (w : World) : Calls Tryz.prog 108 #[.int .i64 h] w fun e w' => e = .returned (.int .i64 (tagOf h)) ∧ w = w' := by
  by_cases hh : 0 ≤ h ∧ h ≤ 1152921504606846975
  · exact (word_tag h w hh.1 hh.2).mono fun _ _ x => ⟨by rw [x.1, tagOf, if_pos hh], x.2⟩
  · exact (word_tag_bad h w hh).mono fun _ _ x => ⟨by rw [x.1, tagOf, if_neg hh], x.2⟩

set_option maxHeartbeats 400000 in
theorem word_pack (x t : Int) (w : World) (h0 : 0 ≤ x) (h1 : x ≤ 1048575) (t0 : 0 ≤ t) (t1 : t ≤ 1099511627775) :
    Calls Tryz.prog 11 #[.int .i64 x, .int .i64 t] w fun e w' => e = .returned (.tuple #[.int .i64 (wd x t), .int .i64 0]) ∧ w = w' := by
  have hb := Lib.hid (or_tag x t h0 h1 t0 t1)
  go_enter Tryz.func11, Tryz.ntmps11
  go_wp2
  go_ret2
  refine ⟨?_, rfl⟩
  show Ending.returned (.tuple #[.int .i64 (bits .or .i64 (x * 1099511627776) t), .int .i64 0]) = _
  rw [hb.out]
  rfl

set_option maxHeartbeats 400000 in
theorem word_next (x i : Int) (w : World) (h0 : 0 ≤ x) (h1 : x ≤ 1152921504606846975) (i0 : 0 ≤ i) (i1 : i ≤ 1048575) :
    Calls Tryz.prog 104 #[.int .i64 x, .int .i64 i] w fun e w' => e = .returned (.tuple #[.int .i64 (wd i ((x % 1099511627776 + 1) % 1099511627776)), .int .i64 0]) ∧ w = w' := by
  have m0 : 0 ≤ x % 1099511627776 ∧ x % 1099511627776 ≤ 1099511627775 := by omega
  have hb := Lib.hid (or_tag i ((x % 1099511627776 + 1) % 1099511627776) i0 i1 (by omega) (by omega))
  have ha := Lib.hid (and_tag (x % 1099511627776 + 1) (by omega) (by omega))
  go_enter Tryz.func104, Tryz.ntmps104
  go_wp2_with (first | (go_at_call 54; go_in) | (go_at_call 113; refine (is_word x _).mono ?_; rintro e w' ⟨rfl, rfl⟩; rw [decide_eq_true ⟨h0, h1⟩]))
  refine (word_tag x _ h0 h1).mono ?_
  rintro e w' ⟨rfl, rfl⟩
  revert m0 hb ha
  generalize hm : x % 1099511627776 = m
  intro m0 hb ha
  have HM := Lib.hid hm
  clear hm
  obtain ⟨m1, m2⟩ := m0
  go_wp2_with fail
  go_ret2
  refine ⟨?_, rfl⟩
  show Ending.returned (.tuple #[.int .i64 (bits .or .i64 (i * 1099511627776) (bits .and .i64 (m + 1) 1099511627775)), .int .i64 0]) = _
  rw [ha.out, hb.out, HM.out]
  rfl

end Go.Proofs.YtpknnamficegbaaGreatDoor

