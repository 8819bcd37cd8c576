/- A pile of places, alone: New, PopWith, Push as calls. Conditions: the pile stands in memory as PileAt says; its tag is below 1000000000000. -/
import Derived.Test.YtpknnamficegbaaGreatDoorCAtom
import Derived.Test.YtpknnamficegbaaGreatDoorCWord
set_option linter.unusedVariables false
set_option linter.unusedSimpArgs false
set_option linter.unusedSectionVars false
set_option linter.unnecessarySimpa false
namespace Go.Proofs.YtpknnamficegbaaGreatDoor
open Go.RowKit

/-- The top of a list of places; 0: there is none. -/
def top (fs : List Nat) : Int := (fs.headD 0 : Nat)

/-- Each place's next one. -/
def Linked (nx : List Int) : List Nat → Prop
  | [] => True
  | a :: r => nx.getD a 0 = top r ∧ Linked nx r

theorem top_range {n : Nat} {fs : List Nat} (h : ∀ x, x ∈ fs → 1 ≤ x ∧ x ≤ n) : 0 ≤ top fs ∧ top fs ≤ n := by
  cases fs with
  | nil => simp [top]
  | cons a r => have := h a (by simp); simp [top]; omega

theorem Linked.set {nx : List Int} {i : Nat} {x : Int} : ∀ {fs : List Nat}, i ∉ fs → Linked nx fs → Linked (nx.set i x) fs
  | [], _, _ => trivial
  | a :: r, hi, h => by
    simp only [List.mem_cons, not_or] at hi
    refine ⟨?_, Linked.set hi.2 h.2⟩
    rw [List.getD, List.getElem?_set_ne hi.1]
    exact h.1

/-- A pile at block pb, its places' next ones in block nb: n places, the tag t, the free ones fs from the top on. -/
structure PileAt (w : World) (pb nb n : Nat) (t : Int) (fs : List Nat) (nx : List Int) : Prop where
  head : Blk w pb #[.int .i64 (wd (top fs) t), .slice (some ⟨nb, 0, none⟩) (n + 1) (n + 1)] 161
  row : Blk w nb (nx.map (Value.int .i64)).toArray 102
  len : nx.length = n + 1
  apart : pb ≠ nb
  many : 1 ≤ n ∧ n ≤ 4096
  tag : 0 ≤ t ∧ t ≤ 1000000000000
  links : Linked nx fs
  once : fs.Nodup
  range : ∀ x, x ∈ fs → 1 ≤ x ∧ x ≤ n

theorem PileAt.only {S : List Nat} {w w' : World} {pb nb n : Nat} {t : Int} {fs : List Nat} {nx : List Int} (h : PileAt w pb nb n t fs nx) (o : Only S w w') (hb : pb ∉ S) (hq : nb ∉ S) : PileAt w' pb nb n t fs nx :=
  ⟨h.head.only o hb, h.row.only o hq, h.len, h.apart, h.many, h.tag, h.links, h.once, h.range⟩

theorem PileAt.at {w : World} {pb nb n : Nat} {t : Int} {fs : List Nat} {nx : List Int} (h : PileAt w pb nb n t fs nx) {i : Nat} (hi : i ≤ n) : w.cell? ⟨nb, i, none⟩ = some (.int .i64 (nx.getD i 0)) := by
  have hl := h.len
  refine h.row.cell i ?_
  simp [List.getElem?_eq_getElem (show i < nx.length by omega), List.getD]

set_option maxHeartbeats 400000 in
theorem pile_pop_none (pb nb n : Nat) (t : Int) (nx : List Int) (f : Value) (w : World) (h : PileAt w pb nb n t [] nx) :
    Calls Tryz.prog 56 #[.pointer (some ⟨pb, 0, none⟩), .pointer none, f] w fun e w' => e = .returned (.tuple #[.int .i64 0, .int .i64 83]) ∧ w = w' := by
  have ht := h.tag
  have hr := wd_range (x := top []) (t := t) (by simp [top]) (by simp [top]) ht.1 (by omega)
  have hx := Lib.hid (wd_index (x := top []) ht.1 (show t ≤ 1099511627775 by omega))
  have hc := h.head.cell 0 rfl
  go_enter Tryz.func56, Tryz.ntmps56
  go_wp2_with fail
  refine wp_loop_rounds 1 ?_
  rw [rounds_succ]
  go_wp2_with fail
  refine (step_nil _).mono ?_
  rintro e w' ⟨rfl, rfl⟩
  go_wp2_with fail
  refine (load_any _ _ _ hc).mono ?_
  rintro e w' ⟨rfl, rfl⟩
  go_wp2_with fail
  refine (word_index _ _ hr.1 hr.2).mono ?_
  rw [hx.out]
  rintro e w' ⟨rfl, rfl⟩
  rw [show top [] = 0 from rfl]
  go_wp2_with fail
  go_ret2
  exact ⟨rfl, rfl⟩

theorem PileAt.popped {w w1 : World} {pb nb n i : Nat} {t : Int} {r : List Nat} {nx : List Int} (h : PileAt w pb nb n t (i :: r) nx) (ht : t + 1 ≤ 1000000000000) (hw : w.setCell ⟨pb, 0, none⟩ (.int .i64 (wd (top r) (t + 1))) = w1) : PileAt w1 pb nb n (t + 1) r nx ∧ Only [pb] w w1 := by
  subst hw
  refine ⟨⟨?_, h.row.set_other (fun e => h.apart e.symm) _, h.len, h.apart, h.many, ?_, h.links.2, (List.nodup_cons.1 h.once).2, fun x hx => h.range x (by simp [hx])⟩, Only.setCell _ (by simp) _⟩
  · have := h.head.set_same 0 (.int .i64 (wd (top r) (t + 1)))
    simpa using this
  · have := h.tag; omega

set_option maxHeartbeats 800000 in
theorem pile_pop (pb nb n i : Nat) (t : Int) (r : List Nat) (nx : List Int) (a b c d : Value) (R : World → Prop) (w : World) (h : PileAt w pb nb n t (i :: r) nx) (ht1 : t + 1 ≤ 1000000000000)
    (hthen : ∀ w1, PileAt w1 pb nb n (t + 1) r nx → Only [pb] w w1 → Calls Tryz.prog 57 #[.int .i64 i, a, b, c, d] w1 fun e w' => e = .returned (.tuple #[]) ∧ R w') :
    Calls Tryz.prog 56 #[.pointer (some ⟨pb, 0, none⟩), .pointer none, .func (.func 57) #[] #[a, b, c, d]] w fun e w' => e = .returned (.tuple #[.int .i64 i, .int .i64 0]) ∧ R w' := by
  have ht := h.tag
  have hi := h.range i (by simp)
  have hm := h.many
  have hil : i < n + 1 := by omega
  have hr := wd_range (x := top (i :: r)) (t := t) (by simp [top]) (by simp [top]; omega) ht.1 (by omega)
  have hx := Lib.hid (wd_index (x := top (i :: r)) ht.1 (show t ≤ 1099511627775 by omega))
  have hy := Lib.hid (wd_tag (x := top (i :: r)) ht.1 (show t ≤ 1099511627775 by omega))
  have hc := h.head.cell 0 rfl
  have hsl : w.cell? ⟨pb, 1, none⟩ = some (.slice (some ⟨nb, 0, none⟩) (n + 1) (n + 1)) := h.head.cell 1 rfl
  have hnx := h.at (i := i) (by omega)
  rw [h.links.1] at hnx
  have htr := top_range (fs := r) (n := n) (fun x hx => h.range x (by simp [hx]))
  have hp := Lib.hid (fun w1 => PileAt.popped (w1 := w1) h ht1)
  have HT := Lib.hid hthen
  have hfree := h.head.free 0
  have ht2 : ((t + 1) % 1099511627776 : Int) = t + 1 := by omega
  have HT2 := Lib.hid ht2
  have hi0 : ((i : Int) == 0) = false := by simp; omega
  have hti := Lib.hid (show top (i :: r) = (i : Int) from rfl)
  clear hthen h ht2
  obtain ⟨hr0, hr1⟩ := hr
  obtain ⟨htr0, htr1⟩ := htr
  obtain ⟨hi1, hi2⟩ := hi
  generalize hX : wd (top (i :: r)) t = X at *
  have HX := Lib.hid hX
  clear hX
  go_enter Tryz.func56, Tryz.ntmps56
  go_wp2_with fail
  refine wp_loop_rounds 1 ?_
  rw [rounds_succ]
  go_wp2_with fail
  refine (step_nil _).mono ?_
  rintro e w' ⟨rfl, rfl⟩
  go_wp2_with fail
  refine (load_any _ _ _ hc).mono ?_
  rintro e w' ⟨rfl, rfl⟩
  go_wp2_with fail
  refine (word_index _ _ hr0 hr1).mono ?_
  rw [hx.out, hti.out]
  rintro e w' ⟨rfl, rfl⟩
  go_wp2_with fail
  refine (step_nil _).mono ?_
  rintro e w' ⟨rfl, rfl⟩
  go_wp2_with fail
  refine (load_any _ _ _ hnx).mono ?_
  rintro e w' ⟨rfl, rfl⟩
  go_wp2_with fail
  refine (step_nil _).mono ?_
  rintro e w' ⟨rfl, rfl⟩
  go_wp2_with fail
  refine (word_next _ _ _ hr0 hr1 htr0 (by omega)).mono ?_
  rw [hy.out, HT2.out]
  rintro e w' ⟨rfl, rfl⟩
  go_wp2_with fail
  refine (cas_hit _ _ _ _ hc hfree).mono ?_
  rintro e w1 ⟨rfl, hw⟩
  obtain ⟨hP, hO⟩ := hp.out w1 hw
  clear hw
  go_wp2_with fail
  refine (HT.out w1 hP hO).mono ?_
  rintro e w2 ⟨rfl, hR⟩
  have HR := Lib.hid hR
  clear hR
  go_wp2_with fail
  go_ret2
  exact ⟨rfl, HR.out⟩

theorem PileAt.linked {w w1 : World} {pb nb n i : Nat} {t : Int} {fs : List Nat} {nx : List Int} (h : PileAt w pb nb n t fs nx) (hi : i ∉ fs) (x : Int) {m : Nat} (hw : (w.drewN m).setCell ⟨nb, i, none⟩ (.int .i64 x) = w1) : PileAt w1 pb nb n t fs (nx.set i x) ∧ Only [nb] w w1 := by
  subst hw
  have hO : Only [nb] w ((w.drewN m).setCell ⟨nb, i, none⟩ (.int .i64 x)) := (Only.drewN _ w m).trans (Only.setCell _ (by simp) _)
  refine ⟨⟨h.head.only hO (by simp [h.apart]), ?_, by simp [h.len], h.apart, h.many, h.tag, h.links.set hi, h.once, h.range⟩, hO⟩
  have := Blk.set_same (w := w.drewN m) h.row i (.int .i64 x)
  simpa [List.map_set] using this

theorem PileAt.pushed {w w1 : World} {pb nb n i : Nat} {t : Int} {fs : List Nat} {nx : List Int} (h : PileAt w pb nb n t fs (nx.set i (top fs))) (hi : i ∉ fs) (hr : 1 ≤ i ∧ i ≤ n) (ht : t + 1 ≤ 1000000000000) (hw : w.setCell ⟨pb, 0, none⟩ (.int .i64 (wd i (t + 1))) = w1) :
    PileAt w1 pb nb n (t + 1) (i :: fs) (nx.set i (top fs)) ∧ Only [pb] w w1 := by
  subst hw
  have hl := h.len
  simp only [List.length_set] at hl
  refine ⟨⟨?_, h.row.set_other (fun e => h.apart e.symm) _, h.len, h.apart, h.many, ?_, ⟨?_, h.links⟩, List.nodup_cons.2 ⟨hi, h.once⟩, ?_⟩, Only.setCell _ (by simp) _⟩
  · have := h.head.set_same 0 (.int .i64 (wd i (t + 1)))
    simpa [top] using this
  · have := h.tag; omega
  · simp [List.getD, show i < nx.length by omega]
  · intro x hx
    rcases List.mem_cons.1 hx with rfl | hx
    · exact hr
    · exact h.range x hx

set_option maxHeartbeats 400000 in
theorem pile_is (pb nb n : Nat) (t : Int) (fs : List Nat) (nx : List Int) (i : Int) (w : World) (h : PileAt w pb nb n t fs nx) :
    Calls Tryz.prog 112 #[.pointer (some ⟨pb, 0, none⟩), .int .i64 i] w fun e w' => e = .returned (.bool (decide (1 ≤ i ∧ i ≤ n))) ∧ w = w' := by
  have hsl : w.cell? ⟨pb, 1, none⟩ = some (.slice (some ⟨nb, 0, none⟩) (n + 1) (n + 1)) := h.head.cell 1 rfl
  by_cases h0 : 1 ≤ i
  · by_cases h1 : i < (n : Int) + 1
    · go_enter Tryz.func112, Tryz.ntmps112
      go_wp2
      go_ret
      exact ⟨by simp <;> omega, rfl⟩
    · have h1' : decide (i < (n : Int) + 1) = false := by simpa using h1
      go_enter Tryz.func112, Tryz.ntmps112
      go_wp2
      go_ret
      exact ⟨by simp <;> omega, rfl⟩
  · go_enter Tryz.func112, Tryz.ntmps112
    go_wp2
    go_ret
    exact ⟨by simp <;> omega, rfl⟩

set_option maxHeartbeats 800000 in
theorem pile_push (pb nb n i : Nat) (t : Int) (fs : List Nat) (nx : List Int) (w : World) (h : PileAt w pb nb n t fs nx) (ht1 : t + 1 ≤ 1000000000000) (hi : i ∉ fs) (hr : 1 ≤ i ∧ i ≤ n) :
    Calls Tryz.prog 65 #[.pointer (some ⟨pb, 0, none⟩), .pointer none, .int .i64 i] w fun e w' => e = .returned (.int .i64 0) ∧ PileAt w' pb nb n (t + 1) (i :: fs) (nx.set i (top fs)) ∧ Only [pb, nb] w w' := by
  have H := Lib.hid h
  have hm := h.many
  have ht := h.tag
  have htr := top_range (fs := fs) (n := n) h.range
  have hw := wd_range (x := top fs) (t := t) htr.1 (by omega) ht.1 (by omega)
  have hx := Lib.hid (wd_index (x := top fs) ht.1 (show t ≤ 1099511627775 by omega))
  have hy := Lib.hid (wd_tag (x := top fs) ht.1 (show t ≤ 1099511627775 by omega))
  have HT2 := Lib.hid (show ((t + 1) % 1099511627776 : Int) = t + 1 by omega)
  have hc := h.head.cell 0 rfl
  have hl := h.len
  have hn0 := h.row.cell (vs := _) i (v := .int .i64 (nx.getD i 0)) (by simp [List.getElem?_eq_getElem (show i < nx.length by omega), List.getD])
  have hnf := h.row.free i
  have hsl : w.cell? ⟨pb, 1, none⟩ = some (.slice (some ⟨nb, 0, none⟩) (n + 1) (n + 1)) := h.head.cell 1 rfl
  have hap := h.apart
  have HIS := Lib.hid (fun w => pile_is pb nb n t fs nx i w)
  have hdec : decide (1 ≤ (i : Int) ∧ (i : Int) ≤ n) = true := decide_eq_true (by omega)
  obtain ⟨hw0, hw1⟩ := hw
  obtain ⟨hr1, hr2⟩ := hr
  have hil : (i : Int) < (n : Int) + 1 := by omega
  generalize nx.getD i 0 = old at hn0
  generalize hX : wd (top fs) t = X at *
  have HX := Lib.hid hX
  have HL := Lib.hid hl
  clear hX hl h
  go_enter Tryz.func65, Tryz.ntmps65
  go_wp2_with fail
  refine (HIS.out _ H.out).mono ?_
  rw [hdec]
  rintro e w' ⟨rfl, rfl⟩
  clear hdec
  go_wp2_with fail
  refine wp_loop_rounds 1 ?_
  rw [rounds_succ]
  go_wp2_with fail
  refine (step_nil _).mono ?_
  rintro e w' ⟨rfl, rfl⟩
  go_wp2_with fail
  refine (load_any _ _ _ hc).mono ?_
  rintro e w' ⟨rfl, rfl⟩
  go_wp2_with fail
  refine (step_nil _).mono ?_
  rintro e w' ⟨rfl, rfl⟩
  go_upto_region 7 with fail
  go_cut [31] (fun s31 wc => s31 = .int .i64 (top fs) ∧ PileAt wc pb nb n t fs (nx.set i (top fs)) ∧ Only [nb] w wc)
  case first =>
    go_region_with (first | (go_at_call 66; refine (word_index X _ hw0 hw1).mono ?_; rw [hx.out]; rintro e w' ⟨rfl, rfl⟩) | (go_at_call 64; refine (store_any _ _ _ w.drew hn0 hnf).mono ?_; rintro e w' ⟨rfl, rfl⟩))
    all_goals (go_wp2_with fail; go_meet)
    all_goals exact ⟨rfl, H.out.linked hi (top fs) (m := 1) rfl⟩
  case rest =>
    obtain ⟨rfl, hP, hO⟩ := hcut
    have hc2 := hP.head.cell 0 rfl
    rw [HX.out] at hc2
    have hf2 := hP.head.free 0
    have hpu := Lib.hid (fun w1 => PileAt.pushed (w1 := w1) hP hi ⟨hr1, hr2⟩ ht1)
    clear hP hc hn0 hnf hsl H HIS HL
    go_wp2_with fail
    refine (step_nil _).mono ?_
    rintro e w' ⟨rfl, rfl⟩
    go_wp2_with fail
    refine (word_next _ _ _ hw0 hw1 (by omega) (by omega)).mono ?_
    rw [hy.out, HT2.out]
    rintro e w' ⟨rfl, rfl⟩
    go_wp2_with fail
    refine (cas_hit _ _ _ _ hc2 hf2).mono ?_
    rintro e w1 ⟨rfl, hw⟩
    obtain ⟨hP, hO1⟩ := hpu.out w1 hw
    clear hw
    go_wp2_with fail
    go_ret
    exact ⟨rfl, hP, (hO.mono (by simp)).trans (hO1.mono (by simp))⟩

/-- The next ones while New lays them: those below k have theirs. -/
def nxInit (k n : Nat) : List Int := (List.range (n + 1)).map fun j => if 1 ≤ j ∧ j < k then (j : Int) + 1 else 0

theorem nxInit_length (k n : Nat) : (nxInit k n).length = n + 1 := by simp [nxInit]

theorem nxInit_getD {k n j : Nat} (hj : j ≤ n) : (nxInit k n).getD j 0 = if 1 ≤ j ∧ j < k then (j : Int) + 1 else 0 := by
  simp [nxInit, List.getD, show j < n + 1 by omega]

theorem nxInit_one (n : Nat) : nxInit 1 n = List.replicate (n + 1) 0 := by
  apply List.ext_getElem
  · simp [nxInit]
  · intro j h1 h2
    simp [nxInit]
    omega

theorem nxInit_set {k n : Nat} (hk : 1 ≤ k) : (nxInit k n).set k ((k : Int) + 1) = nxInit (k + 1) n := by
  apply List.ext_getElem
  · simp [nxInit]
  · intro j h1 h2
    rw [List.getElem_set]
    by_cases hj : k = j
    · subst hj
      simp [nxInit, hk]
    · rw [if_neg hj]
      simp only [nxInit, List.getElem_map, List.getElem_range]
      by_cases h : 1 ≤ j ∧ j < k
      · rw [if_pos h, if_pos (by omega)]
      · rw [if_neg h, if_neg (by omega)]

theorem linked_init (n : Nat) : ∀ (m a : Nat), a + m = n + 1 → 1 ≤ a → Linked (nxInit n n) (List.range' a m) := by
  intro m
  induction m with
  | zero => intro a _ _; trivial
  | succ m ih =>
    intro a h h1
    rw [List.range'_succ]
    refine ⟨?_, ih (a + 1) (by omega) (by omega)⟩
    rw [nxInit_getD (by omega)]
    cases m with
    | zero => rw [if_neg (by omega)]; rfl
    | succ m => rw [if_pos (by omega), List.range'_succ]; simp [top]

set_option maxHeartbeats 800000 in
theorem pile_new (n : Nat) (h1 : 1 ≤ n) (h2 : n ≤ 4096) (w : World) :
    Calls Tryz.prog 53 #[.int .i64 n, .int .i64 0] w fun e w' => e = .returned (.tuple #[.pointer (some ⟨w.heap.size + 1, 0, none⟩), .int .i64 0]) ∧ PileAt w' (w.heap.size + 1) w.heap.size n 0 (List.range' 1 n) (nxInit n n) ∧ Only [] w w' := by
  have hmk := fun w => make_atomics (n + 1) (by omega) w
  rw [show ((n + 1 : Nat) : Int) = (n : Int) + 1 from by omega] at hmk
  go_enter Tryz.func53, Tryz.ntmps53
  go_wp2_with fail
  refine (word_pack 1 0 _ (by omega) (by omega) (by omega) (by omega)).mono ?_
  rintro e w' ⟨rfl, rfl⟩
  go_wp2_with fail
  refine calls_name (fun w1 => Blk w1 (w.heap.size + 1) #[.int .i64 0, .slice (some ⟨w.heap.size, 0, none⟩) (n + 1) (n + 1)] 161 ∧ Blk w1 w.heap.size ((List.replicate (n + 1) (0 : Int)).map (Value.int .i64)).toArray 102 ∧ Only [] w w1 ∧ w1.heap.size = w.heap.size + 2) ⟨?_, ?_, ?_, ?_⟩ ?_
  · have := Blk.new (w.alloc (.cells ((List.replicate (n + 1) (0 : Int)).map (Value.int .i64)).toArray 102)) #[.int .i64 0, .slice (some ⟨w.heap.size, 0, none⟩) (n + 1) (n + 1)] 161
    simpa using this
  · have := (Blk.new w ((List.replicate (n + 1) (0 : Int)).map (Value.int .i64)).toArray 102).alloc (.cells #[.int .i64 0, .slice (some ⟨w.heap.size, 0, none⟩) (n + 1) (n + 1)] 161)
    simpa using this
  · exact (Only.alloc [] w _).trans (Only.alloc [] _ _)
  · simp
  rintro w1 ⟨hB, hQ, hO, hsz⟩
  refine (store_any _ _ (wd 1 0) _ (hB.cell 0 rfl) (hB.free 0)).mono ?_
  rintro e w2 ⟨rfl, hw⟩
  have hB2 : Blk w2 (w.heap.size + 1) #[.int .i64 (wd 1 0), .slice (some ⟨w.heap.size, 0, none⟩) (n + 1) (n + 1)] 161 := hw ▸ (by simpa using hB.set_same 0 (.int .i64 (wd 1 0)))
  have hQ2 : Blk w2 w.heap.size ((nxInit 1 n).map (Value.int .i64)).toArray 102 := by
    rw [nxInit_one, ← hw]; exact hQ.set_other (by simp) _
  have hO2 : Only [] w w2 := hw ▸ hO.past (Only.setCell (S := [w.heap.size + 1]) w1 (a := ⟨w.heap.size + 1, 0, none⟩) (by simp) _) (by simp)
  clear hw hB hQ hO hsz hmk
  obtain ⟨pb, hpb⟩ : ∃ pb, w.heap.size + 1 = pb := ⟨_, rfl⟩
  obtain ⟨nb, hnb⟩ : ∃ nb, w.heap.size = nb := ⟨_, rfl⟩
  rw [hpb] at hB2
  rw [hnb] at hB2 hQ2
  have hpn : pb = nb + 1 := by omega
  have HPN := Lib.hid hpn
  have HPB := Lib.hid hpb
  have HNB := Lib.hid hnb
  rw [hpb]
  clear hpn hpb hnb
  go_wp2_with fail
  go_loopw [9] (fun s9 wr => ∃ k : Nat, 1 ≤ k ∧ k ≤ n ∧ s9 = .int .i64 k ∧ Blk wr pb #[.int .i64 (wd 1 0), .slice (some ⟨nb, 0, none⟩) (n + 1) (n + 1)] 161 ∧ Blk wr nb ((nxInit k n).map (Value.int .i64)).toArray 102 ∧ Only [] w wr) (fun s9 _ => n - (intOf s9).toNat)
  case atStart => exact ⟨1, Nat.le_refl _, h1, rfl, hB2, hQ2, hO2⟩
  case round =>
    obtain ⟨k, hk1, hkn, rfl, hB, hQ, hO⟩ := hrel
    clear hB2 hQ2 hO2
    have hsl := hB.cell 1 rfl
    by_cases hlt : k < n
    · have hck := hQ.cell k (v := .int .i64 ((nxInit k n).getD k 0)) (by simp [List.getElem?_eq_getElem (show k < (nxInit k n).length by rw [nxInit_length]; omega), List.getD])
      have hset := Lib.hid (nxInit_set (k := k) (n := n) hk1)
      generalize (nxInit k n).getD k 0 = old at hck
      have hki : (k : Int) < (n : Int) + 1 := by omega
      go_wp2_with fail
      refine (store_any _ _ ((k : Int) + 1) _ hck (hQ.free k)).mono ?_
      rintro e w3 ⟨rfl, hw⟩
      have hne : pb ≠ nb := by have := HPN.out; omega
      have hB3 : Blk w3 pb #[.int .i64 (wd 1 0), .slice (some ⟨nb, 0, none⟩) (n + 1) (n + 1)] 161 := hw ▸ hB.set_other hne _
      have hQ3 : Blk w3 nb ((nxInit (k + 1) n).map (Value.int .i64)).toArray 102 := by
        have := hQ.set_same k (.int .i64 ((k : Int) + 1))
        rw [hw] at this
        rw [← hset.out]
        simpa [List.map_set] using this
      have hO3 : Only [] w w3 := hw ▸ hO.past (Only.setCell (S := [nb]) wr (a := ⟨nb, k, none⟩) (by simp) _) (by intro i hi; right; simp at hi; have := HNB.out; omega)
      clear hw hB hQ hO hck
      go_wp2_with fail
      go_roundw
      case rel => exact ⟨k + 1, by omega, by omega, by go_num, hB3, hQ3, hO3⟩
      case measure => simp [intOf]; omega
    · obtain rfl : k = n := by omega
      go_wp2_with fail
      go_ret2
      refine ⟨by show Ending.returned (.tuple #[.pointer (some ⟨pb, 0, none⟩), .int .i64 0]) = _; rw [HPB.out], ?_, hO⟩
      rw [HPB.out, HNB.out]
      refine ⟨?_, hQ, nxInit_length _ _, by have := HPN.out; omega, ⟨h1, h2⟩, ⟨by omega, by omega⟩, linked_init k k 1 (by omega) (by omega), List.nodup_range', ?_⟩
      · have ht : top (List.range' 1 k) = 1 := by
          obtain ⟨m, rfl⟩ : ∃ m, k = m + 1 := ⟨k - 1, by omega⟩
          rw [List.range'_succ]; rfl
        rw [ht]; exact hB
      · intro x hx
        rw [List.mem_range'_1] at hx
        omega

end Go.Proofs.YtpknnamficegbaaGreatDoor

