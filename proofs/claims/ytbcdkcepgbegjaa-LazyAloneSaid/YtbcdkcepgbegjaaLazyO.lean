/- A table asked: Get, Made. Conditions: it stands in memory; the place is one of its own, where a contract says so. -/
import Derived.Test.YtbcdkcepgbegjaaLazyN
namespace Go.Proofs.Ytbcdkcepgbegjaa
open Go.RowKit

section
variable {W : World} {tv tb fb n : Nat} {g cp : Nat → Nat} {gt ct : Nat} {ps : Nat → PU} {ts : Nat → TU} {ow : Nat → Nat} {w : World} {ss : Nat → St}

theorem m_tonce (h : Main W tv tb fb n g cp gt ct ps ts ow w ss) {k : Nat} (hk : k < n) : Calls Try.prog 10 #[ptr (ts k).tn, .pointer none] w fun e w' => e = .returned (.tuple #[.int .i64 ((ps k).m.out 1).val, .int .i64 ((ps k).m.out 1).err]) ∧ Main W tv tb fb n g cp gt ct ps ts ow w' (upU ss k { ss k with aT := true }) := by
  obtain ⟨U, L⟩ := h.unit hk
  cases ha : (ss k).aT with
  | false =>
    have ho := U.tn
    have hx := U.z
    simp only [ha] at ho hx
    have hS := h.mine hk (S := [(ts k).tn]) (by intro b hb; simp at hb; simp [mbl]; omega)
    have off : ∀ l, l < 100 → Off [(ts k).tn] ow l w := fun l hl b hb hw e => by have := (hS.1 b hb hw).2; omega
    have hm : Makes (TU.fn fb (ts k)) w [(ts k).tn] (ps k).z (oneCells (ps k).m (0 + 1)) 33 ((ps k).m.out (0 + 1)) := by
      refine ⟨23, _, rfl, fun w => by go_simp, fun w1 h1 => ?_⟩
      have hg := ((h.rows 14 (by decide) (by decide)).only h1 (off 14 (by decide)) (Ext.refl _ _)).at (by simp [fields]; omega)
      obtain ⟨g', e, _, _, _, hc⟩ := hg
      cases e
      have hI := U.iv.only h1 (out_one (U.ne 11 10 rfl rfl (by decide)))
      rw [h.idx k hk] at hI
      exact table_call fb (ts k).iv tv (ps k).z k (ps k).m 0 w1 n (cp 14) (g 14) (h.box.only h1 (h.l2.out (off 2 (by decide)) _ (by simp))) hI (h.var.only h1 (h.l3.out (off 3 (by decide)) _ (by simp))) (hc k _ (by simp [fields, hk]; rfl)) hk (hx.only h1 (out_one (U.ne 2 10 rfl rfl (by decide)))) (by omega) (by omega)
    refine (once_first (ts k).tn (ps k).z _ _ _ _ w ho hm hx.lt (U.ne 2 10 rfl rfl (by decide))).mono ?_
    rintro e w' ⟨rfl, ho', hx', hO⟩
    refine ⟨rfl, ?_⟩
    have hS := h.mine hk (S := [(ts k).tn, (ps k).z]) (by intro b hb; simp at hb; simp [mbl, PU.bl]; omega)
    exact h.set hO k hS.1 hS.2 (Ext.refl _ _) ⟨U.x.only hO (out_two (U.ne 0 10 rfl rfl (by decide)) (U.ne 0 2 rfl rfl (by decide))), U.bx.only hO (out_two (U.ne 3 10 rfl rfl (by decide)) (U.ne 3 2 rfl rfl (by decide))), U.o.only hO (out_two (U.ne 4 10 rfl rfl (by decide)) (U.ne 4 2 rfl rfl (by decide))), U.a.only hO (out_two (U.ne 7 10 rfl rfl (by decide)) (U.ne 7 2 rfl rfl (by decide))), U.y.only hO (out_two (U.ne 1 10 rfl rfl (by decide)) (U.ne 1 2 rfl rfl (by decide))), U.bY.only hO (out_two (U.ne 5 10 rfl rfl (by decide)) (U.ne 5 2 rfl rfl (by decide))), U.r.only hO (out_two (U.ne 6 10 rfl rfl (by decide)) (U.ne 6 2 rfl rfl (by decide))), fun q hq => (U.kept q hq).only hO (out_two (U.nk hq 10 rfl) (U.nk hq 2 rfl)), U.b.only hO (out_two (U.ne 8 10 rfl rfl (by decide)) (U.ne 8 2 rfl rfl (by decide))), hx', U.c.only hO (out_two (U.ne 9 10 rfl rfl (by decide)) (U.ne 9 2 rfl rfl (by decide))), ho', U.iv.only hO (out_two (U.ne 11 10 rfl rfl (by decide)) (U.ne 11 2 rfl rfl (by decide))), U.apart⟩ (L.ext (Ext.refl _ _) hO.size)
  | true =>
    have ho := U.tn
    simp only [ha] at ho
    refine (once_again (ts k).tn _ _ _ _ w ho).mono ?_
    rintro e w' ⟨rfl, hO⟩
    have e1 : upU ss k { ss k with aT := true } = ss := upU_self ss k (by rw [← ha])
    exact ⟨rfl, by rw [e1]; exact h.junk hO⟩

set_option maxRecDepth 100000 in
set_option maxHeartbeats 800000 in
theorem m_table (h : Main W tv tb fb n g cp gt ct ps ts ow w ss) {k : Nat} (hk : k < n) : Calls Try.prog 13 #[ptr tb, .pointer none, .int .i64 k] w fun e w' => e = .returned (.tuple #[.int .i64 ((ps k).m.out 1).val, .int .i64 ((ps k).m.out 1).err]) ∧ Main W tv tb fb n g cp gt ct ps ts ow w' (upU ss k { ss k with aT := true }) := by
  have t0 : w.cell? ⟨tb, 0, none⟩ = some (.slice (some ⟨gt, 0, none⟩) n ct) := h.tab.cell 0 rfl
  have tk : w.cell? ⟨gt, k, none⟩ = some (.pointer (some ⟨(ts k).tn, 0, none⟩)) := h.tcell hk
  have d0 : decide ((k : Int) < 0) = false := by simp
  have d1 : decide ((n : Int) ≤ (k : Int)) = false := by simp; omega
  have hkn : (k : Int) < n := by omega
  have HT := Lib.hid (m_tonce h hk)
  clear h
  unfold ptr at *
  go_enter Try.func13, Try.ntmps13
  go_wp2_with fail
  refine HT.out.mono ?_
  rintro e w' ⟨rfl, hM⟩
  have HM := Lib.hid hM
  clear hM HT t0 tk
  go_wp2_with fail
  go_ret2
  exact ⟨rfl, HM.out⟩

set_option maxRecDepth 100000 in
set_option maxHeartbeats 800000 in
theorem m_table_bad (h : Main W tv tb fb n g cp gt ct ps ts ow w ss) {k : Int} (hk : k < 0 ∨ (0 ≤ k ∧ (n : Int) ≤ k)) : Calls Try.prog 13 #[ptr tb, .pointer none, .int .i64 k] w fun e w' => e = .returned (.tuple #[.int .i64 0, .int .i64 71]) ∧ w = w' := by
  have t0 : w.cell? ⟨tb, 0, none⟩ = some (.slice (some ⟨gt, 0, none⟩) n ct) := h.tab.cell 0 rfl
  clear h
  unfold ptr
  rcases hk with hk | ⟨hk0, hk⟩
  · have d0 : decide (k < 0) = true := by simpa using hk
    go_enter Try.func13, Try.ntmps13
    go_wp2_with (go_at_call 24; refine (step_nil _).mono ?_; rintro e w' ⟨rfl, rfl⟩)
    go_ret2
    exact ⟨rfl, rfl⟩
  · have d0 : decide (k < 0) = false := by simp; omega
    have d1 : decide ((n : Int) ≤ k) = true := by simpa using hk
    go_enter Try.func13, Try.ntmps13
    go_wp2_with (go_at_call 24; refine (step_nil _).mono ?_; rintro e w' ⟨rfl, rfl⟩)
    go_ret2
    exact ⟨rfl, rfl⟩

/-- The places of which there is a value. -/
def madeAt (ps : Nat → PU) (ss : Nat → St) (i : Nat) : Bool := (ss i).aT && ((ps i).m.out 1).well
def mades (ps : Nat → PU) (ss : Nat → St) (k : Nat) : List Nat := (List.range k).filter (madeAt ps ss)

theorem mades_length (ps : Nat → PU) (ss : Nat → St) (k : Nat) : (mades ps ss k).length ≤ k := by
  have := List.length_filter_le (madeAt ps ss) (List.range k)
  simpa [mades] using this

theorem mades_yes {ps : Nat → PU} {ss : Nat → St} {k : Nat} (h : madeAt ps ss k = true) : mades ps ss (k + 1) = mades ps ss k ++ [k] := by
  unfold mades; rw [List.range_succ, List.filter_append]; simp [h]
theorem mades_no {ps : Nat → PU} {ss : Nat → St} {k : Nat} (h : madeAt ps ss k = false) : mades ps ss (k + 1) = mades ps ss k := by
  unfold mades; rw [List.range_succ, List.filter_append]; simp [h]

def intV (i : Nat) : Value := .int .i64 i

theorem info_int : (Try.prog.info? 3).map (fun i => (i.zero, i.size, i.bytes)) = some (some (.int .i64 0), 1, 8) := by kernel_rfl

def MadePost (W : World) (tv tb fb n : Nat) (g cp : Nat → Nat) (gt ct : Nat) (ps : Nat → PU) (ts : Nat → TU) (ss : Nat → St) (e : Ending) (w' : World) : Prop :=
  ∃ (v : Value) (ow' : Nat → Nat), e = .returned v ∧ Main W tv tb fb n g cp gt ct ps ts ow' w' ss ∧ RowO W.heap.size ow' 20 w' 3 v ((mades ps ss n).map intV)

/-- A step that turns blocks of other labels. -/
theorem Main.past (h : Main W tv tb fb n g cp gt ct ps ts ow w ss) {ow' : Nat → Nat} {w' : World} {S : List Nat} (o : Only S w w') (hS : ∀ b, b ∈ S → b < w.heap.size → 18 ≤ ow b ∧ ow b < 100) (hN : ∀ b, b ∈ S → W.heap.size ≤ b) (hE : Ext ow ow' w) : Main W tv tb fb n g cp gt ct ps ts ow' w' ss := by
  have off : ∀ l, (l < 18 ∨ 100 ≤ l) → Off S ow l w := fun l hl b hb hw e => by have := hS b hb hw; omega
  exact ⟨h.units.only (MOk.stable fb) o (fun i _ => off _ (by omega)) hE, fun r h1 h2 => (h.rows r h1 h2).only o (off r (by omega)) hE, h.trow.only o (off 1 (by omega)) hE, h.var.only o (h.l3.out (off 3 (by omega)) _ (by simp)), h.tab.only o (h.l2.out (off 2 (by omega)) _ (by simp)), h.box.only o (h.l2.out (off 2 (by omega)) _ (by simp)), h.l2.ext hE o.size, h.l3.ext hE o.size, h.idx, h.old.past o (fun b hb => Or.inr (hN b hb))⟩

set_option maxRecDepth 100000 in
set_option maxHeartbeats 4000000 in
theorem m_made (h : Main W tv tb fb n g cp gt ct ps ts ow w ss) (hn : n ≤ 1000) : Calls Try.prog 16 #[ptr tb, .pointer none] w (MadePost W tv tb fb n g cp gt ct ps ts ss) := by
  have t0 : w.cell? ⟨tb, 0, none⟩ = some (.slice (some ⟨gt, 0, none⟩) n ct) := h.tab.cell 0 rfl
  obtain ⟨i0, hi0, hz0, hz1, hz2⟩ := info_parts info_int
  have HM := Lib.hid h
  clear h
  unfold ptr
  go_enter Try.func16, Try.ntmps16
  go_wp2_with (go_at_call 24; refine (step_nil _).mono ?_; rintro e w' ⟨rfl, rfl⟩)
  clear t0
  go_loopg [5, 15] n (fun g' s5 s15 wr => ∃ (k : Nat) (ow' : Nat → Nat), k + g' = n ∧ s15 = .int .i64 k ∧ Main W tv tb fb n g cp gt ct ps ts ow' wr ss ∧ RowO W.heap.size ow' 20 wr 3 s5 ((mades ps ss k).map intV))
  case atStart => exact ⟨0, ow, by omega, rfl, HM.out, RowO.empty _ _ _ _ _⟩
  case round =>
    obtain ⟨k, ow', hk, rfl, hM, hR⟩ := hrel
    have HR := Lib.hid hR
    have HM2 := Lib.hid hM
    have HK := Lib.hid hk
    by_cases hkn : k < n
    · have hki : (k : Int) < n := by omega
      have tk : wr.cell? ⟨gt, k, none⟩ = some (.pointer (some ⟨(ts k).tn, 0, none⟩)) := hM.tcell hkn
      have td : wr.cell? ⟨(ts k).tn, 6, none⟩ = some (.int .u32 (b32 (madeAt ps ss k))) := by
        have ho := (hM.unit hkn).1.tn
        unfold madeAt
        cases ha : (ss k).aT with
        | false => simp only [ha] at ho; exact ho.cell 6 rfl
        | true => simp only [ha] at ho; exact ho.cell 6 rfl
      have HL := Lib.hid (mades_length ps ss k)
      have HLOW := Lib.hid hM.low
      clear hM hR hk
      go_wp2_with fail
      refine (bool_load _ (madeAt ps ss k) _ td).mono ?_
      rintro e w' ⟨rfl, rfl⟩
      cases hd : madeAt ps ss k with
      | false =>
        have HD := Lib.hid (mades_no hd)
        clear hd
        go_wp2_with fail
        go_roundg (gk - 1)
        case measure => have := HK.out; omega
        case rel => exact ⟨k + 1, ow', by have := HK.out; omega, by go_num, HM2.out, by rw [HD.out]; exact HR.out⟩
      | true =>
        have HD := Lib.hid (mades_yes hd)
        clear hd
        have HROW := Lib.hid (HR.out.only (Only.alloc [] wr (.cells #[intV k] 3)) (Off.nil _ _ _) (Ext.refl _ _))
        go_wp2_with (at_builtin; refine RowO.appendList rfl (.tmp 24) (.tmp 26) 58 rfl W.heap.size ow' 20 3 i0 _ 8 Try.underlying58 hi0 hz0 hz1 hz2 rfl _ _ rfl HROW.out ⟨wr.heap.size, 0, none⟩ 1 (intV k) rfl ((Blk.new _ _ _).cell 0 rfl) rfl (by rw [List.length_map]; have := HL.out; unfold maxLen; omega) (by rw [List.length_map]; have := HL.out; omega) (by have := HLOW.out; simp; omega) ?_)
        intro v' w' hr hO
        have HM3 := Lib.hid ((HM2.out.junk (Only.alloc [] wr (.cells #[intV k] 3))).past hO (fun b hb _ => by have := (HROW.out.lies b hb).2.2; omega) (fun b hb => (HROW.out.lies b hb).1) (Ext.fresh _ _ 20))
        have HR3 := Lib.hid hr
        clear hr hO HROW
        go_wp2_with fail
        go_roundg (gk - 1)
        case measure => have := HK.out; omega
        case rel => exact ⟨k + 1, _, by have := HK.out; omega, by go_num, HM3.out, by rw [HD.out, List.map_append]; exact HR3.out⟩
    · have hkn' : k = n := by omega
      subst hkn'
      clear hk hM hR
      go_wp2_with fail
      go_ret
      exact ⟨_, _, rfl, HM2.out, HR.out⟩
end

end Go.Proofs.Ytbcdkcepgbegjaa
