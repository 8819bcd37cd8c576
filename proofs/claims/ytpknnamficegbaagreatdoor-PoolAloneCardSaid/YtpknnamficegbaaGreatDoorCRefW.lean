/- The document's pool: Gens. Conditions: the pool stands in memory as RefP says. · The document's pile: Look. Conditions: the pool stands in memory as RefP says. · The document's pile and pool: Look as a call. Conditions: the pool stands in memory as RefP says. · The document's pool: Gens as a call. Conditions: the pool stands in memory as RefP says. -/
import Derived.Test.YtpknnamficegbaaGreatDoorCRefZ
set_option linter.unusedVariables false
set_option linter.unusedSimpArgs false
set_option linter.unusedSectionVars false
set_option linter.unnecessarySimpa false
namespace Go.Proofs.YtpknnamficegbaaGreatDoor
open Go.RowKit

/-- What Gens tells of the first j slots. -/
def gensL (S : Nat → Sl) (j : Nat) : List Value := (List.range j).map fun i => Value.int .i64 (S (i + 1)).gen
def marksL (S : Nat → Sl) (j : Nat) : List Value := (List.range j).map fun i => Value.int .i64 (S (i + 1)).mark

theorem gensL_succ (S : Nat → Sl) (j : Nat) : gensL S (j + 1) = gensL S j ++ [.int .i64 (S (j + 1)).gen] := by simp [gensL, List.range_succ]
theorem marksL_succ (S : Nat → Sl) (j : Nat) : marksL S (j + 1) = marksL S j ++ [.int .i64 (S (j + 1)).mark] := by simp [marksL, List.range_succ]

section
variable {w w' : World} {A : RP} {tb k n hd : Nat} {S : Nat → Sl} {t : Int} {nx : List Int} {fa : Int}

theorem Byd.fine {B : List Nat} (h : Byd tb B w w') : Only (B ++ tb :: (logB w tb).toList) w w' := ⟨h.os, h.tape, h.output, h.size, fun i hi hn => by
  simp only [List.mem_append, List.mem_cons, not_or] at hn
  exact h.keep i hi hn.1 hn.2.1 (fun e => absurd (by simp [e]) hn.2.2)⟩

/-- A row whose block is not the worker's. -/
def OffTh (w : World) (tb : Nat) (v : Value) : Prop := ∀ b, v.ownBlock = some b → NotTh w tb b

theorem Byd.own_row {B : List Nat} {base e s m : Nat} {v : Value} {xs : List Value} (h : Byd tb B w w') (hO : w.ownsRow base e s v m xs) (hv : OffTh w tb v) (hB : ∀ b, b ∈ B → b < base) : w'.ownsRow base e s v m xs ∧ OffTh w' tb v := by
  refine ⟨ownsRow_only hO h.fine (fun b hb hm => ?_), fun b hb => h.not_th (hO.lt b hb).2 (hv b hb)⟩
  have hn := hv b hb
  simp only [List.mem_append, List.mem_cons] at hm
  rcases hm with hm | hm | hm
  · have := hB b hm
    have := (hO.lt b hb).1
    omega
  · exact hn.1 hm
  · exact hn.2 (by simpa using hm)

/-- Two rows whose blocks differ. -/
def ApartV (u v : Value) : Prop := ∀ b, u.ownBlock = some b → v.ownBlock ≠ some b

structure GenSt (W0 : World) (A : RP) (tb k n : Nat) (S : Nat → Sl) (hd : Nat) (t : Int) (nx : List Int) (fa : Int) (base jg jm : Nat) (vg vm : Value) (W : World) : Prop where
  p : RefP W A tb k n S hd t nx fa
  x : Byd tb A.all W0 W
  b : tb < base ∧ base ≤ W.heap.size ∧ W0.heap.size = base
  g : W.ownsRow base 3 1 vg jg (gensL S jg)
  m : W.ownsRow base 3 1 vm jm (marksL S jm)
  ng : OffTh W tb vg
  nm : OffTh W tb vm
  d : ApartV vg vm

theorem GenSt.step {W0 W W' : World} {k' base jg jm : Nat} {vg vm : Value} (h : GenSt W0 A tb k n S hd t nx fa base jg jm vg vm W) (hP : RefP W' A tb k' n S hd t nx fa) (o : Byd tb [] W W') : GenSt W0 A tb k' n S hd t nx fa base jg jm vg vm W' := by
  have a := o.own_row h.g h.ng (by simp)
  have b := o.own_row h.m h.nm (by simp)
  exact ⟨hP, h.x.trans o.all, ⟨h.b.1, Nat.le_trans h.b.2.1 o.size, h.b.2.2⟩, a.1, b.1, a.2, b.2, h.d⟩

theorem GenSt.plain {W0 W W' : World} {base jg jm : Nat} {vg vm : Value} (h : GenSt W0 A tb k n S hd t nx fa base jg jm vg vm W) (o : Only [] W W') : GenSt W0 A tb k n S hd t nx fa base jg jm vg vm W' :=
  h.step (h.p.plain o) (Byd.of o h.p.th.lt (by simp))

/-- What an append to one's own row turns, with regard to the worker's. -/
theorem app_off {W W' : World} {base : Nat} {v v' : Value} {m : Nat} {xs : List Value} {T s : Nat} {mb : Nat} (hT : ThAt W tb mb k) (hO : W.ownsRow base T s v m xs) (hv : OffTh W tb v) (o : Only v.ownBlock.toList W W') (hat : ∀ b, v'.ownBlock = some b → v.ownBlock = some b ∨ W.heap.size ≤ b) : ThAt W' tb mb k ∧ OffTh W' tb v' ∧ (∀ u, OffTh W tb u → OffTh W' tb u) := by
  have htn : tb ∉ v.ownBlock.toList := fun hm => (hv tb (by simpa using hm)).1 rfl
  have hlog := logB_only o hT.lt htn
  refine ⟨hT.off o (fun b hb => hv b (by simpa using hb)), fun b hb => ?_, fun u hu b hb => ⟨(hu b hb).1, by rw [hlog]; exact (hu b hb).2⟩⟩
  rcases hat b hb with h | h
  · exact ⟨(hv b h).1, by rw [hlog]; exact (hv b h).2⟩
  · refine ⟨by have := hT.lt; omega, fun e => ?_⟩
    rw [hlog] at e
    obtain ⟨own, log, L', left, hB, hO', hr⟩ := hT
    have e1 : logB W tb = log.ownBlock := by unfold logB; rw [hB.cell 4 rfl]; rfl
    have := (hO'.lt b (by rw [← e1]; exact e)).2
    omega

theorem GenSt.grow_g {W0 W W' : World} {base j : Nat} {vg vg' vm : Value} (h : GenSt W0 A tb k n S hd t nx fa base j j vg vm W) (o : Only vg.ownBlock.toList W W') (hat : ∀ b, vg'.ownBlock = some b → vg.ownBlock = some b ∨ W.heap.size ≤ b) (hg : W'.ownsRow base 3 1 vg' (j + 1) (gensL S (j + 1))) : GenSt W0 A tb k n S hd t nx fa base (j + 1) j vg' vm W' := by
  have ha := app_off h.p.th h.g h.ng o hat
  have hbs : ∀ b, b ∈ vg.ownBlock.toList → base ≤ b := fun b hb => (h.g.lt b (by simpa using hb)).1
  refine ⟨⟨h.p.q.only o (fun b hb hm => by have := h.p.mem_lt hb; have := hbs b hm; have := h.b.1; omega), ha.1, h.p.low⟩, h.x.past o h.p.th.lt (fun hm => by have := hbs _ hm; have := h.b.1; omega) (fun b hb => by have := hbs b hb; have := h.b.2.2; omega), ⟨h.b.1, Nat.le_trans h.b.2.1 o.size, h.b.2.2⟩, hg, ownsRow_only h.m o (fun b hb hm => h.d b (by simpa using hm) hb), ha.2.1, ha.2.2 _ h.nm, fun b hb e => ?_⟩
  rcases hat b hb with h1 | h1
  · exact h.d b h1 e
  · have := (h.m.lt b e).2
    omega

theorem GenSt.grow_m {W0 W W' : World} {base j : Nat} {vg vm vm' : Value} (h : GenSt W0 A tb k n S hd t nx fa base (j + 1) j vg vm W) (o : Only vm.ownBlock.toList W W') (hat : ∀ b, vm'.ownBlock = some b → vm.ownBlock = some b ∨ W.heap.size ≤ b) (hg : W'.ownsRow base 3 1 vm' (j + 1) (marksL S (j + 1))) : GenSt W0 A tb k n S hd t nx fa base (j + 1) (j + 1) vg vm' W' := by
  have ha := app_off h.p.th h.m h.nm o hat
  have hbs : ∀ b, b ∈ vm.ownBlock.toList → base ≤ b := fun b hb => (h.m.lt b (by simpa using hb)).1
  refine ⟨⟨h.p.q.only o (fun b hb hm => by have := h.p.mem_lt hb; have := hbs b hm; have := h.b.1; omega), ha.1, h.p.low⟩, h.x.past o h.p.th.lt (fun hm => by have := hbs _ hm; have := h.b.1; omega) (fun b hb => by have := hbs b hb; have := h.b.2.2; omega), ⟨h.b.1, Nat.le_trans h.b.2.1 o.size, h.b.2.2⟩, ownsRow_only h.g o (fun b hb hm => h.d b hb (by simpa using hm)), hg, ha.2.2 _ h.ng, ha.2.1, fun b hb e => ?_⟩
  rcases hat b e with h1 | h1
  · exact h.d b hb h1
  · have := (h.g.lt b hb).2
    omega

end

end Go.Proofs.YtpknnamficegbaaGreatDoor

namespace Go.Proofs.YtpknnamficegbaaGreatDoor
open Go.RowKit

/-- The block holds truths: the j-th is f j. -/
def RowB (w : World) (b N : Nat) (f : Nat → Bool) (T : TypeId) : Prop :=
  ∃ c : Array Value, w.heap[b]? = some (.cells c T (0, 0)) ∧ c.size = N ∧ ∀ j, j < N → c[j]? = some (.bool (f j))

theorem RowB.lt {w : World} {b N : Nat} {f : Nat → Bool} {T : TypeId} (h : RowB w b N f T) : b < w.heap.size := by
  obtain ⟨c, hc, _⟩ := h
  exact (Array.getElem?_eq_some_iff.1 hc).1

theorem RowB.cell {w : World} {b N : Nat} {f : Nat → Bool} {T : TypeId} (h : RowB w b N f T) {j : Nat} (hj : j < N) : w.cell? ⟨b, j, none⟩ = some (.bool (f j)) := by
  obtain ⟨c, hc, _, hf⟩ := h
  simp [World.cell?, hc, hf j hj]

theorem RowB.free {w : World} {b N : Nat} {f : Nat → Bool} {T : TypeId} (h : RowB w b N f T) (j : Nat) : w.frozen? ⟨b, j, none⟩ = false := by
  obtain ⟨c, hc, _⟩ := h
  simp [World.frozen?, hc]

theorem RowB.set {w : World} {b N : Nat} {f g : Nat → Bool} {T : TypeId} (h : RowB w b N f T) (k : Nat) (x : Bool) (hg : ∀ j, j < N → (if j = k then x else f j) = g j) : RowB (w.setCell ⟨b, k, none⟩ (.bool x)) b N g T := by
  obtain ⟨c, hc, hs, hf⟩ := h
  refine ⟨c.setIfInBounds k (.bool x), ?_, by simp [hs], ?_⟩
  · simp [World.setCell, Array.getElem?_modify, hc]
  · intro j hj
    rw [Array.getElem?_setIfInBounds, ← hg j hj]
    by_cases hk : k = j
    · subst hk
      rw [if_pos rfl, if_pos (by omega), if_pos rfl]
    · rw [if_neg hk, hf j hj, if_neg (fun e => hk e.symm)]

theorem RowB.only {S : List Nat} {w w' : World} {b N : Nat} {f : Nat → Bool} {T : TypeId} (h : RowB w b N f T) (o : Only S w w') (hn : b ∉ S) : RowB w' b N f T := by
  have hl := h.lt
  obtain ⟨c, hc, hs, hf⟩ := h
  exact ⟨c, by rw [o.block b hl hn]; exact hc, hs, hf⟩

theorem made_bools (n : Nat) : madeCells #[Value.bool false] n = (List.replicate n (Value.bool false)).toArray := by
  apply Array.ext
  · simp [madeCells]
  · intro i h1 h2
    simp [madeCells, Nat.mod_one]

/-- 'make([]bool, n + 1)'. -/
theorem make_bools (n : Nat) (h : n ≤ 1000000) (w : World) : (Instr.makeSlice 196 (.int .i64 ((n : Int) + 1)) (.int .i64 ((n : Int) + 1))).run Tryz.prog w = .ok (.slice (some ⟨w.heap.size, 0, none⟩) (n + 1) (n + 1)) (w.alloc (.cells (List.replicate (n + 1) (Value.bool false)).toArray 4)) := by
  obtain ⟨i, hi, hz, hs, hb⟩ := info_parts (P := Tryz.prog) (e := 4) (z := .bool false) (size := 1) (bytes := 1) (by kernel_rfl)
  have hr := run_make (P := Tryz.prog) w 196 4 i _ Tryz.underlying196 hi hz .i64 .i64 ((n + 1 : Nat) : Int) ((n + 1 : Nat) : Int) (by omega) (Int.le_refl _) (by rw [hb]; omega) (by omega)
  simp only [Int.toNat_natCast, hs, Nat.mul_one] at hr
  rw [show ((n : Int) + 1) = ((n + 1 : Nat) : Int) by omega, hr, ← made_bools]
  rfl

theorem RowB.made (w : World) (n : Nat) (T : TypeId) : RowB (w.alloc (.cells (List.replicate (n + 1) (Value.bool false)).toArray T)) w.heap.size (n + 1) (fun _ => false) T :=
  ⟨_, Blk.new w _ _, by simp, fun j hj => by simp [hj]⟩

section
variable {w w' : World} {A : RP} {tb k n hd : Nat} {S : Nat → Sl} {t : Int} {nx : List Int} {fa : Int}

structure LookSt (W0 : World) (A : RP) (tb k n : Nat) (S : Nat → Sl) (hd : Nat) (t : Int) (nx : List Int) (fa : Int) (base cb m : Nat) (f : Nat → Bool) (xs : List Value) (v : Value) (W : World) : Prop where
  p : RefP W A tb k n S hd t nx fa
  x : Byd tb A.all W0 W
  b : tb < base ∧ base ≤ cb ∧ W0.heap.size = base
  o : W.ownsRow base 3 1 v m xs
  r : RowB W cb (n + 1) f 4
  no : OffTh W tb v
  nr : NotTh W tb cb
  d : v.ownBlock ≠ some cb

variable {base cb m : Nat} {f : Nat → Bool} {xs : List Value} {v : Value} {W0 W W' : World}

theorem LookSt.mono {k' : Nat} (h : LookSt W0 A tb k n S hd t nx fa base cb m f xs v W) (hk : k ≤ k') : LookSt W0 A tb k' n S hd t nx fa base cb m f xs v W := ⟨h.p.mono hk, h.x, h.b, h.o, h.r, h.no, h.nr, h.d⟩

theorem LookSt.step {k' : Nat} (h : LookSt W0 A tb k n S hd t nx fa base cb m f xs v W) (hP : RefP W' A tb k' n S hd t nx fa) (o : Byd tb [] W W') : LookSt W0 A tb k' n S hd t nx fa base cb m f xs v W' := by
  have a := o.own_row h.o h.no (by simp)
  refine ⟨hP, h.x.trans o.all, h.b, a.1, h.r.only o.fine (fun hm => ?_), a.2, o.not_th h.r.lt h.nr, h.d⟩
  simp only [List.nil_append, List.mem_cons] at hm
  rcases hm with hm | hm
  · exact h.nr.1 hm
  · exact h.nr.2 (by simpa using hm)

theorem LookSt.plain (h : LookSt W0 A tb k n S hd t nx fa base cb m f xs v W) (o : Only [] W W') : LookSt W0 A tb k n S hd t nx fa base cb m f xs v W' := h.step (h.p.plain o) (Byd.of o h.p.th.lt (by simp))

theorem LookSt.grow {m' : Nat} {v' : Value} {xs' : List Value} (h : LookSt W0 A tb k n S hd t nx fa base cb m f xs v W) (o : Only v.ownBlock.toList W W') (hat : ∀ b, v'.ownBlock = some b → v.ownBlock = some b ∨ W.heap.size ≤ b) (hg : W'.ownsRow base 3 1 v' m' xs') : LookSt W0 A tb k n S hd t nx fa base cb m' f xs' v' W' := by
  have ha := app_off h.p.th h.o h.no o hat
  have hbs : ∀ b, b ∈ v.ownBlock.toList → base ≤ b := fun b hb => (h.o.lt b (by simpa using hb)).1
  refine ⟨⟨h.p.q.only o (fun b hb hm => by have := h.p.mem_lt hb; have := hbs b hm; have := h.b.1; omega), ha.1, h.p.low⟩, h.x.past o h.p.th.lt (fun hm => by have := hbs _ hm; have := h.b.1; omega) (fun b hb => by have := hbs b hb; have := h.b.2.2; omega), h.b, hg, h.r.only o (fun hm => h.d (by simpa using hm)), ha.2.1, ?_, fun e => ?_⟩
  · exact ⟨h.nr.1, by rw [logB_only o h.p.th.lt (fun hm => by have := hbs _ hm; have := h.b.1; omega)]; exact h.nr.2⟩
  · rcases hat _ e with h1 | h1
    · exact h.d h1
    · have := h.r.lt
      omega

theorem LookSt.came {g : Nat → Bool} (h : LookSt W0 A tb k n S hd t nx fa base cb m f xs v W) (i : Nat) (x : Bool) (hg : ∀ j, j < n + 1 → (if j = i then x else f j) = g j) (hw : W.setCell ⟨cb, i, none⟩ (.bool x) = W') : LookSt W0 A tb k n S hd t nx fa base cb m g xs v W' := by
  have o : Only [cb] W W' := hw ▸ Only.setCell _ (by simp) _
  have hbs : ∀ b, b ∈ [cb] → base ≤ b := fun b hb => by simp at hb; have := h.b.2.1; omega
  have hlog := logB_only o h.p.th.lt (fun hm => by have := hbs _ hm; have := h.b.1; omega)
  refine ⟨⟨h.p.q.only o (fun b hb hm => by have := h.p.mem_lt hb; have := hbs b hm; have := h.b.1; omega), h.p.th.off o (by simp; exact h.nr), h.p.low⟩, h.x.past o h.p.th.lt (fun hm => by have := hbs _ hm; have := h.b.1; omega) (fun b hb => by have := hbs b hb; have := h.b.2.2; omega), h.b, ownsRow_only h.o o (fun b hb hm => h.d (by simp at hm; exact hm ▸ hb)), hw ▸ h.r.set i x hg, fun b hb => ⟨(h.no b hb).1, by rw [hlog]; exact (h.no b hb).2⟩, ⟨h.nr.1, by rw [hlog]; exact h.nr.2⟩, h.d⟩

end

end Go.Proofs.YtpknnamficegbaaGreatDoor

namespace Go.Proofs.YtpknnamficegbaaGreatDoor
open Go.RowKit

section
variable {w w' : World} {A : RP} {tb k n hd : Nat} {S : Nat → Sl} {t : Int} {nx : List Int} {fa : Int}

theorem head_read (h : RefP w A tb k n S hd t nx fa) (hk : k ≤ 900000) : Calls Tryz.prog 115 #[.pointer (some ⟨tb, 0, none⟩), .int .i64 0] w fun e w' => e = .returned (.int .i64 (wd (hd : Nat) t)) ∧ RefP w' A tb (k + 2) n S hd t nx fa ∧ Byd tb [] w w' := by
  have hm := h.q.q.many
  refine (th_load (a := 0) h.th hk h.q.q.mem h.low.2.1 h.low.2.2.1 (by omega) (by omega)).mono ?_
  rintro e w' ⟨rfl, hT, hX⟩
  exact ⟨rfl, h.step hT hX, hX⟩

theorem next_read (h : RefP w A tb k n S hd t nx fa) {i j : Nat} (h2 : i ≤ n) (hj : nx.getD i 0 = (j : Nat)) (hk : k ≤ 900000) : Calls Tryz.prog 115 #[.pointer (some ⟨tb, 0, none⟩), .int .i64 ((1 + i : Nat) : Int)] w fun e w' => e = .returned (.int .i64 (j : Nat)) ∧ RefP w' A tb (k + 2) n S hd t nx fa ∧ Byd tb [] w w' := by
  have hm := h.q.q.many
  refine (th_load (a := 1 + i) h.th hk h.q.q.mem h.low.2.1 h.low.2.2.1 (by omega) (by omega)).mono ?_
  rintro e w' ⟨rfl, hT, hX⟩
  rw [wordsF_next hd t nx S h2, hj]
  exact ⟨rfl, h.step hT hX, hX⟩

set_option maxRecDepth 100000 in
set_option maxHeartbeats 4000000 in
theorem ref_look8 (H : RefP w A tb k n S hd t nx fa) (hk : k ≤ 600000) :
    Calls Tryz.prog 124 #[.pointer (some ⟨A.pl, 0, none⟩), .pointer (some ⟨tb, 0, none⟩)] w fun e w' => ∃ v, e = .returned v ∧ RefP w' A tb (k + 2 * n + 10) n S hd t nx fa ∧ Byd tb A.all w w' ∧ w'.ownsRow w.heap.size 3 1 v (trail n nx hd).length ((trail n nx hd).map fun x => Value.int .i64 (x : Nat)) := by
  have hm := H.q.q.many
  have ht := H.q.q.tag
  have hhd := H.q.q.hdr
  have HN : Hid (∀ x, x ≤ n → ∃ y : Nat, nx.getD x 0 = (y : Nat) ∧ y ≤ n) := Lib.hid (fun x hx => ⟨(nx.getD x 0).toNat, by have := H.q.q.rng x hx; omega, by have := H.q.q.rng x hx; omega⟩)
  obtain ⟨c0, c1, c2, c3, t2⟩ := H.rp.c
  have hi := idxOf_wd (x := (hd : Int)) (t := t) (by omega) (by omega) ht.1 (by omega)
  have HI := Lib.hid (fun w => ref_idx (wd (hd : Int) t) w)
  have HHD := Lib.hid (fun W j (h : RefP W A tb j n S hd t nx fa) (hj : j ≤ 900000) => head_read h hj)
  rw [hi] at HI
  obtain ⟨X, hX⟩ : ∃ X, wd (hd : Int) t = X := ⟨_, rfl⟩
  rw [hX] at HI HHD
  obtain ⟨i0, hi0, hz0, hz1, hz2⟩ := info_parts info_int
  have HI0 := Lib.hid (And.intro hi0 (And.intro hz0 (And.intro hz1 hz2)))
  have hmk := make_bools n (by omega)
  have HH := Lib.hid H
  have HLT := Lib.hid H.th.lt
  clear H hi hX hi0 hz0 hz1 hz2
  go_enter Tryz.func124, Tryz.ntmps124
  go_wp2_with fail
  refine wp_loop_rounds 1 ?_
  rw [rounds_succ]
  go_wp2_with fail
  refine (HHD.out w k HH.out (by omega)).mono ?_
  rintro e w1 ⟨rfl, hP, hX⟩
  have HP1 := Lib.hid (And.intro hP hX)
  obtain ⟨c0, c1, c2, c3, t2⟩ := hP.rp.c
  clear hP hX HH
  go_upto_region 6 with fail
  refine wp_name (fun w2 => LookSt w A tb (k + 2) n S hd t nx fa w.heap.size w1.heap.size 0 (fun j => decide (j ∈ ([] : List Nat))) [] (.slice none 0 0) w2) ⟨HP1.out.1.plain (Only.alloc _ _ _), HP1.out.2.all.trans (Byd.plain HP1.out.1 (Only.alloc _ _ _)), ⟨?_, HP1.out.2.size, rfl⟩, World.ownsRow_nil _ _ _ _, RowB.made w1 n _, by simp [OffTh, Value.ownBlock], not_th_new HP1.out.1.th (Only.alloc _ _ _), by simp [Value.ownBlock]⟩ ?_
  · exact HLT.out
  obtain ⟨cb, hcb⟩ : ∃ cb, w1.heap.size = cb := ⟨_, rfl⟩
  rw [hcb]
  clear hcb HP1 c0 c1 c2 c3 t2 hmk
  intro w2 hS2
  have HS2 := Lib.hid hS2
  clear hS2
  go_wp2_with fail
  refine (HI.out _).mono ?_
  rintro e w' ⟨rfl, rfl⟩
  go_wp2_with fail
  go_loopg [6, 8] (n + 1) (fun gk s6 s8 wr => ∃ (pre : List Nat) (x : Nat), Tl nx n hd gk pre x ∧ s8 = .int .i64 (x : Nat) ∧ LookSt w A tb (k + 2 + 2 * pre.length) n S hd t nx fa w.heap.size cb pre.length (fun j => decide (j ∈ pre)) (pre.map fun x => Value.int .i64 (x : Nat)) s6 wr)
  case atStart => exact ⟨[], hd, Tl.start hhd, rfl, HS2.out⟩
  case round =>
    obtain ⟨pre, x, hT, rfl, hSt⟩ := hrel
    obtain ⟨ad, cp, rfl⟩ := own_slice_any hSt.o
    have HT := Lib.hid hT
    have hx2 := hT.le
    have HST := Lib.hid hSt
    obtain ⟨c0, c1, c2, c3, t2⟩ := hSt.p.rp.c
    have hcm := hSt.r.cell (j := x) (by omega)
    have hcf := hSt.r.free x
    obtain ⟨m, hm2⟩ : ∃ q, pre.length = q := ⟨_, rfl⟩
    rw [hm2] at HST ⊢
    have HM := Lib.hid hm2
    have hml : m ≤ n := by have := hT.few; omega
    have hxl : (x : Int) < (n : Int) + 1 := by omega
    by_cases hx0 : x = 0
    · subst hx0
      have hfe := hT.stop (Or.inl rfl)
      have HFE := Lib.hid hfe
      clear hT hSt hm2 hfe
      go_wp2_with fail
      refine (HHD.out _ _ HST.out.p (by omega)).mono ?_
      rintro e w9 ⟨rfl, hP9, hX9⟩
      have t9 := hP9.m
      have HST9 := Lib.hid (HST.out.step hP9 hX9)
      clear hP9 hX9
      go_wp2_with fail
      go_ret
      refine ⟨_, rfl, HST9.out.p.mono (by omega), HST9.out.x, ?_⟩
      rw [← HFE.out, HM.out]
      exact HST9.out.o
    · by_cases hin : x ∈ pre
      · have hcb : wr.cell? ⟨cb, x, none⟩ = some (.bool true) := by rw [hcm]; simp [hin]
        have hfe := hT.stop (Or.inr hin)
        have HFE := Lib.hid hfe
        have hxi : ((x : Int) != 0) = true := by simpa using hx0
        clear hT hSt hm2 hfe hin hcm
        go_wp2_with fail
        refine (HHD.out _ _ HST.out.p (by omega)).mono ?_
        rintro e w9 ⟨rfl, hP9, hX9⟩
        have t9 := hP9.m
        have HST9 := Lib.hid (HST.out.step hP9 hX9)
        clear hP9 hX9
        go_wp2_with fail
        go_ret
        refine ⟨_, rfl, HST9.out.p.mono (by omega), HST9.out.x, ?_⟩
        rw [← HFE.out, HM.out]
        exact HST9.out.o
      · have hcb : wr.cell? ⟨cb, x, none⟩ = some (.bool false) := by rw [hcm]; simp [hin]
        have hxi : ((x : Int) != 0) = true := by simpa using hx0
        obtain ⟨y, hy, hyn⟩ := HN.out x hx2
        obtain ⟨q, hq, hTq⟩ := hT.step hx0 hin hy hyn
        have HTQ := Lib.hid (And.intro hq hTq)
        have HY := Lib.hid hy
        clear hT hSt hm2 hin hcm hq hTq hy
        go_upto_region 9 with fail
        refine wp_name (fun w3 => LookSt w A tb (k + 2 + 2 * m) n S hd t nx fa w.heap.size cb m (fun j => decide (j ∈ pre ++ [x])) (pre.map fun x => Value.int .i64 (x : Nat)) (.slice ad m cp) w3) (HST.out.came x true (fun j hj => by by_cases e : j = x <;> simp [e]) rfl) ?_
        intro w3 hS3
        have HST3 := Lib.hid hS3
        have hsz3 : w.heap.size ≤ w3.heap.size := by have := hS3.o; have := hS3.r.lt; have := hS3.b.2.1; omega
        obtain ⟨hi0, hz0, hz1, hz2⟩ := HI0.out
        clear hS3 HST c0 c1 c2 c3 t2 hcb hcf
        go_upto_region 10 with (at_builtin; refine wpList_append_any (by rfl) (.tmp 40) (.tmp 42) 29 (by rfl) w.heap.size 3 i0 _ 1 8 Tryz.underlying29 hi0 hz0 hz1 hz2 rfl (by decide) _ m (pre.map fun x => Value.int .i64 (x : Nat)) rfl (HST3.out.o.alloc _) (some ⟨w3.heap.size, 0, none⟩) 1 1 [.int .i64 (x : Nat)] rfl rfl (fun e => by cases e) (fun ad e => by cases e; exact cell_one_new _ _ _) (fun u hu => by simp at hu; subst hu; rfl) (by unfold maxLen; omega) (by omega) (by simp; omega) ?_)
        intro v4 w4 hown4 hX4 hat4
        have h4 := (HST3.out.plain (Only.alloc _ _ _)).grow hX4 (fun b hb => by rcases hat4 b hb with h | h; exact Or.inl h; exact Or.inr (by simpa using h)) hown4
        obtain ⟨ad4, cp4, rfl⟩ := own_slice_any hown4
        have HST4 := Lib.hid h4
        obtain ⟨c0, c1, c2, c3, t2⟩ := h4.p.rp.c
        have hw1 : IntKind.i64.wrap (1 + (x : Int)) = ((1 + x : Nat) : Int) := by rw [IntWalk.i64_in _ ⟨by omega, by omega⟩]; omega
        have HNR := Lib.hid (next_read h4.p hx2 HY.out (by omega))
        clear h4 hown4 hX4 hat4 HST3 hi0 hz0 hz1 hz2
        go_upto_region 10 with fail
        go_wp2_with fail
        refine HNR.out.mono ?_
        rintro e w5 ⟨rfl, hP5, hX5⟩
        have t5 := hP5.m
        have HST5 := Lib.hid (HST4.out.step hP5 hX5)
        clear hP5 hX5 HNR HST4 c0 c1 c2 c3 t2
        go_wp2_with fail
        go_roundg q
        case measure => have := HTQ.out.1; omega
        case rel => exact ⟨pre ++ [x], y, HTQ.out.2, rfl, by rw [List.length_append, List.map_append, HM.out]; exact HST5.out.mono (by simp; omega)⟩

set_option maxHeartbeats 400000 in
theorem ref_look (H : RefP w A tb k n S hd t nx fa) (hk : k ≤ 600000) :
    Calls Tryz.prog 88 #[.pointer (some ⟨A.r, 0, none⟩), .pointer (some ⟨tb, 0, none⟩)] w fun e w' => ∃ v, e = .returned v ∧ RefP w' A tb (k + 2 * n + 10) n S hd t nx fa ∧ Byd tb A.all w w' ∧ w'.ownsRow w.heap.size 3 1 v (trail n nx hd).length ((trail n nx hd).map fun x => Value.int .i64 (x : Nat)) := by
  obtain ⟨c0, c1, c2, c3, c4, c5⟩ := H.q.c
  have HL := Lib.hid (ref_look8 H hk)
  generalize trail n nx hd = L at *
  clear H
  go_enter Tryz.func88, Tryz.ntmps88
  go_wp2_with fail
  refine HL.out.mono ?_
  rintro e w1 ⟨v, rfl, h⟩
  have HH := Lib.hid h
  clear h
  go_wp2_with fail
  go_ret
  exact ⟨_, rfl, HH.out⟩

end

end Go.Proofs.YtpknnamficegbaaGreatDoor

namespace Go.Proofs.YtpknnamficegbaaGreatDoor
open Go.RowKit

section
variable {w w' : World} {A : RP} {tb k n hd : Nat} {S : Nat → Sl} {t : Int} {nx : List Int} {fa : Int}

theorem GenSt.mono {W0 W : World} {k' base jg jm : Nat} {vg vm : Value} (h : GenSt W0 A tb k n S hd t nx fa base jg jm vg vm W) (hk : k ≤ k') : GenSt W0 A tb k' n S hd t nx fa base jg jm vg vm W := ⟨h.p.mono hk, h.x, h.b, h.g, h.m, h.ng, h.nm, h.d⟩

set_option maxRecDepth 100000 in
set_option maxHeartbeats 2000000 in
theorem ref_gens (H : RefP w A tb k n S hd t nx fa) (hk : k ≤ 600000) :
    Calls Tryz.prog 86 #[.pointer (some ⟨A.r, 0, none⟩), .pointer (some ⟨tb, 0, none⟩)] w fun e w' => ∃ vg vm, e = .returned (.tuple #[vg, vm]) ∧ GenSt w A tb (k + 3 * n) n S hd t nx fa w.heap.size n n vg vm w' := by
  have hm := H.q.q.many
  obtain ⟨i0, hi0, hz0, hz1, hz2⟩ := info_parts info_int
  have HI0 := Lib.hid (And.intro hi0 (And.intro hz0 (And.intro hz1 hz2)))
  have HH := Lib.hid H
  have HLT := Lib.hid H.th.lt
  clear H hi0 hz0 hz1 hz2
  go_enter Tryz.func86, Tryz.ntmps86
  go_wp2_with fail
  go_loopg [6, 7, 8] n (fun g s6 s7 s8 wr => ∃ j : Nat, j + g = n ∧ s8 = .int .i64 ((j : Int) + 1) ∧ GenSt w A tb (k + 3 * j) n S hd t nx fa w.heap.size j j s6 s7 wr)
  case atStart => exact ⟨0, by omega, rfl, HH.out, Byd.plain HH.out (Only.refl _ _), ⟨HLT.out, Nat.le_refl _, rfl⟩, World.ownsRow_nil _ _ _ _, World.ownsRow_nil _ _ _ _, by simp [OffTh, Value.ownBlock], by simp [OffTh, Value.ownBlock], by simp [ApartV, Value.ownBlock]⟩
  case round =>
    obtain ⟨j, hj, rfl, hSt⟩ := hrel
    obtain ⟨c0, c1, c2, c3, c4, c5⟩ := hSt.p.q.c
    have HJ := Lib.hid hj
    have HST := Lib.hid hSt
    obtain ⟨ag, cg, rfl⟩ := own_slice_any hSt.g
    obtain ⟨am, cm, rfl⟩ := own_slice_any hSt.m
    by_cases hjn : j < n
    · have hjk : (j : Int) + 1 < (n : Int) + 1 := by omega
      have hj3 : j ≤ n ∧ n ≤ 4096 := by omega
      obtain ⟨hj3, hj4⟩ := hj3
      have htn : ((j : Int) + 1).toNat = j + 1 := by omega
      have HL := Lib.hid (gen_read hSt.p (i := j + 1) (by omega) (by omega))
      have hw1 : IntKind.i64.wrap ((n : Int) + 2 + ((j : Int) + 1)) = ((n + 2 + (j + 1) : Nat) : Int) := by rw [IntWalk.i64_in _ ⟨by omega, by omega⟩]; omega
      have HSG := Lib.hid (gensL_succ S j)
      have HSM := Lib.hid (marksL_succ S j)
      obtain ⟨x0, hx0⟩ : ∃ x, (S (j + 1)).gen = x := ⟨_, rfl⟩
      obtain ⟨x5, hx5⟩ : ∃ x, (S (j + 1)).mark = x := ⟨_, rfl⟩
      rw [hx0] at HL HSG
      rw [hx5] at HSM
      have HX5 := Lib.hid hx5
      clear hSt hj hx0 hx5
      go_upto_region 5 with fail
      go_wp2_with fail
      refine HL.out.mono ?_
      rintro e w2 ⟨rfl, hP2, hX2⟩
      have h2 := HST.out.step hP2 hX2
      have t2 := hP2.m
      have HST2 := Lib.hid h2
      have hsz2 : w.heap.size ≤ w2.heap.size := h2.b.2.1
      obtain ⟨hi0, hz0, hz1, hz2⟩ := HI0.out
      clear hP2 hX2 h2 HST HL c0 c1 c2 c3 c4 c5
      go_upto_region 9 with (at_builtin; refine wpList_append_any (by rfl) (.tmp 30) (.tmp 32) 29 (by rfl) w.heap.size 3 i0 _ 1 8 Tryz.underlying29 hi0 hz0 hz1 hz2 rfl (by decide) _ j (gensL S j) rfl (HST2.out.g.alloc _) (some ⟨w2.heap.size, 0, none⟩) 1 1 [.int .i64 x0] rfl rfl (fun e => by cases e) (fun ad e => by cases e; exact cell_one_new _ _ _) (fun u hu => by simp at hu; subst hu; rfl) (by unfold maxLen; omega) (by omega) (by simp; omega) ?_)
      intro v3 w3 hown3 hX3 hat3
      have h3 := (HST2.out.plain (Only.alloc _ _ _)).grow_g hX3 (fun b hb => by rcases hat3 b hb with h | h; exact Or.inl h; exact Or.inr (by simpa using h)) (by rw [HSG.out]; exact hown3)
      obtain ⟨ag3, cg3, rfl⟩ := own_slice_any hown3
      obtain ⟨c0, c1, c2, c3, c4, c5⟩ := h3.p.q.c
      have s5 := h3.p.slotC 5 (by omega) (i := j + 1) (by omega)
      rw [show (S (j + 1)).gd 5 = (S (j + 1)).mark from rfl, HX5.out] at s5
      have HKP := Lib.hid (th_kept (v := x5) h3.p.th (by omega))
      have HST3 := Lib.hid h3
      clear h3 hown3 hX3 hat3 HST2 t2 hi0 hz0 hz1 hz2
      go_upto_region 9 with fail
      go_wp2_with fail
      refine HKP.out.mono ?_
      rintro e w4 ⟨rfl, hT4, hX4⟩
      have h4 := HST3.out.step (HST3.out.p.step hT4 hX4) hX4
      have hsz4 : w.heap.size ≤ w4.heap.size := h4.b.2.1
      have HST4 := Lib.hid h4
      obtain ⟨hi0, hz0, hz1, hz2⟩ := HI0.out
      clear h4 hT4 hX4 HST3 HKP c0 c1 c2 c3 c4 c5 s5
      go_upto_region 4 with (at_builtin; refine wpList_append_any (by rfl) (.tmp 34) (.tmp 45) 29 (by rfl) w.heap.size 3 i0 _ 1 8 Tryz.underlying29 hi0 hz0 hz1 hz2 rfl (by decide) _ j (marksL S j) rfl (HST4.out.m.alloc _) (some ⟨w4.heap.size, 0, none⟩) 1 1 [.int .i64 x5] rfl rfl (fun e => by cases e) (fun ad e => by cases e; exact cell_one_new _ _ _) (fun u hu => by simp at hu; subst hu; rfl) (by unfold maxLen; omega) (by omega) (by simp; omega) ?_)
      intro v5 w5 hown5 hX5 hat5
      have h5 := (HST4.out.plain (Only.alloc _ _ _)).grow_m hX5 (fun b hb => by rcases hat5 b hb with h | h; exact Or.inl h; exact Or.inr (by simpa using h)) (by rw [HSM.out]; exact hown5)
      have HST5 := Lib.hid h5
      clear h5 hown5 hX5 hat5 HST4 hi0 hz0 hz1 hz2
      go_wp2_with fail
      go_roundg (gk - 1)
      case measure => have := HJ.out; omega
      case rel => exact ⟨j + 1, by have := HJ.out; omega, by rw [show ((j + 1 : Nat) : Int) = (j : Int) + 1 from by omega], HST5.out.mono (by omega)⟩
    · have hjn' : j = n := by omega
      subst hjn'
      clear hj hSt
      go_wp2_with fail
      go_ret2
      exact ⟨_, _, rfl, HST.out⟩
end

end Go.Proofs.YtpknnamficegbaaGreatDoor

