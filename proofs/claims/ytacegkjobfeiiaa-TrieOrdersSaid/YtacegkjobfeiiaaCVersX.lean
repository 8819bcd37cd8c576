/- A row of versions of a map: what stands while changes are made. Plain laws, and changed for any change. Conditions: named in the structures. · The changes' cells in memory, and a place among a row's: plain laws. No condition of its own. -/
import Derived.Test.YtacegkjobfeiiaaCTrieEg
import Derived.Test.YtacegkjobfeiiaaCTrieEh
import Derived.Test.YtacegkjobfeiiaaCTrieEi
import Derived.Test.YtacegkjobfeiiaaCTrieEk
set_option linter.unusedVariables false
set_option linter.unusedSimpArgs false
set_option linter.unusedSectionVars false
set_option linter.unnecessarySimpa false
namespace Go.Proofs.Ytacegkjobfeiiaa
open Go.RowKit

/-- A version: its map, its row of pairs in memory. -/
structure Ve where
  ox : Option Tr
  g : Nat
  ao : Option Addr
  cap : Nat

def veC (S : Nat → Sl) (V : Ve) : List Value := [.int .i64 (rootOf S V.ox), .slice V.ao (prs V.ox).length V.cap]
def vesC (S : Nat → Sl) (vs : List Ve) : List Value := vs.flatMap (veC S)

theorem vesC_cons (S : Nat → Sl) (V : Ve) (vs : List Ve) : vesC S (V :: vs) = .int .i64 (rootOf S V.ox) :: .slice V.ao (prs V.ox).length V.cap :: vesC S vs := rfl
theorem vesC_snoc (S : Nat → Sl) (vs : List Ve) (V : Ve) : vesC S (vs ++ [V]) = vesC S vs ++ veC S V := by simp [vesC]
theorem vesC_length (S : Nat → Sl) : ∀ vs : List Ve, (vesC S vs).length = vs.length * 2
  | [] => rfl
  | V :: vs => by rw [vesC_cons]; simp [vesC_length S vs]; omega
theorem vesC_at (S : Nat → Sl) : ∀ {vs : List Ve} {i : Nat} {V : Ve}, vs[i]? = some V → (vesC S vs)[i * 2]? = some (.int .i64 (rootOf S V.ox)) ∧ (vesC S vs)[i * 2 + 1]? = some (.slice V.ao (prs V.ox).length V.cap)
  | a :: vs, 0, V, h => by simp at h; subst h; exact ⟨rfl, rfl⟩
  | a :: vs, i + 1, V, h => by
    have := vesC_at S (vs := vs) (i := i) (V := V) (by simpa using h)
    rw [vesC_cons, show (i + 1) * 2 = i * 2 + 1 + 1 by omega]
    simpa using this

theorem info_version : (Try.prog.info? 33).map (fun i => (i.zero, i.size, i.bytes)) = some (some (.agg #[.int .i64 0, .slice none 0 0]), 2, 32) := by kernel_rfl

theorem RowP.only2 {X : List Nat} {w w' : World} {g : Nat} {ao : Option Addr} {cap : Nat} {l : List KV} (h : RowP w g ao cap l) (o : Only X w w') (hn : l ≠ [] → g ∉ X) : RowP w' g ao cap l := by
  by_cases e : l = []
  · subst e
    exact ⟨h.ad, h.fits, fun j u hu => by simp [prsC] at hu⟩
  · exact h.only o (hn e)

/-- A version stands in memory. -/
structure VeOk (n : Nat) (S : Nat → Sl) (base m : Nat) (w : World) (V : Ve) : Prop where
  rep : RepO n S V.ox
  row : RowP w V.g V.ao V.cap (prs V.ox)
  off : base ≤ V.g
  len : (prs V.ox).length ≤ m
  lt : prs V.ox ≠ [] → V.g < w.heap.size

theorem RepO.move {n : Nat} {S S' : Nat → Sl} {fs : List Nat} {c : Int} {ox : Option Tr} (h : RepO n S ox) (F : Fre n S fs c) (hS : ∀ i, i ∉ fs → S' i = S i) : RepO n S' ox ∧ rootOf S' ox = rootOf S ox := by
  cases ox with
  | none => exact ⟨trivial, rfl⟩
  | some x =>
    have hs : ∀ i, i ∈ x.slots → S' i = S i := fun i hi => hS i (F.out h.1 i hi)
    exact ⟨⟨h.1.same hs, h.2⟩, hnd_same hs⟩

theorem VeOk.move {n : Nat} {S S' : Nat → Sl} {fs : List Nat} {c : Int} {base m m' : Nat} {X : List Nat} {w w' : World} {V : Ve} (h : VeOk n S base m w V) (F : Fre n S fs c) (hS : ∀ i, i ∉ fs → S' i = S i) (o : Only X w w') (hX : ∀ b, b ∈ X → b < base) (hm : m ≤ m') : VeOk n S' base m' w' V :=
  ⟨(h.rep.move F hS).1, h.row.only o (fun hm => by have := hX _ hm; have := h.off; omega), h.off, Nat.le_trans h.len hm, fun e => Nat.lt_of_lt_of_le (h.lt e) o.size⟩

theorem VeOk.only2 {n : Nat} {S : Nat → Sl} {base m : Nat} {X : List Nat} {w w' : World} {V : Ve} (h : VeOk n S base m w V) (o : Only X w w') (hX : prs V.ox ≠ [] → V.g ∉ X) : VeOk n S base m w' V :=
  ⟨h.rep, h.row.only2 o hX, h.off, h.len, fun e => Nat.lt_of_lt_of_le (h.lt e) o.size⟩

/-- The pool, and a row of versions of its maps, behind i changes. -/
structure Vs (A : PA) (n tb base i : Nat) (S : Nat → Sl) (t : Int) (fs : List Nat) (c : Int) (vs : List Ve) (av : Value) (w : World) : Prop where
  tr : TrAt w tb A n S t fs 0
  fre : Fre n S fs c
  low : (∀ k, k ∈ A.all → k < base) ∧ tb < base
  cle : c ≤ 2 * i
  tle : t ≤ 8192 * i
  each : ∀ V, V ∈ vs → VeOk n S base i w V
  own : w.ownsRow base 33 2 av vs.length (vesC S vs)
  one : 1 ≤ vs.length
  apart : ∀ V, V ∈ vs → prs V.ox ≠ [] → av.ownBlock ≠ some V.g
  many : vs.length ≤ i + 1

section
variable {A : PA} {n tb base i : Nat} {S S' : Nat → Sl} {t t' c c' : Int} {fs fs' : List Nat} {vs : List Ve} {av : Value} {w w' : World}

theorem vesC_move (h : ∀ V, V ∈ vs → rootOf S' V.ox = rootOf S V.ox) : vesC S' vs = vesC S vs := by
  induction vs with
  | nil => rfl
  | cons V vs ih => rw [vesC_cons, vesC_cons, h V (by simp), ih (fun V hV => h V (by simp [hV]))]

/-- A step of the pool's: blocks below base alone are turned, slots that are in use stay. -/
theorem Vs.move {X : List Nat} (h : Vs A n tb base i S t fs c vs av w) (T : TrAt w' tb A n S' t' fs' 0) (F : Fre n S' fs' c') (hS : ∀ i, i ∉ fs → S' i = S i) (o : Only X w w') (hX : ∀ b, b ∈ X → b < base) (hc : c' ≤ 2 * (i + 1)) (ht : t' ≤ 8192 * (i + 1)) : Vs A n tb base (i + 1) S' t' fs' c' vs av w' := by
  refine ⟨T, F, h.low, by omega, by omega, fun V hV => (h.each V hV).move h.fre hS o hX (by omega), ?_, h.one, h.apart, Nat.le_trans h.many (by omega)⟩
  rw [vesC_move fun V hV => ((h.each V hV).rep.move h.fre hS).2]
  exact ownsRow_only h.own o (fun b hb hm => by have := (h.own.lt b hb).1; have := hX b hm; omega)

theorem Vs.only {X : List Nat} (h : Vs A n tb base i S t fs c vs av w) (o : Only X w w') (hX : ∀ b, b ∈ X → base ≤ b ∧ (∀ V, V ∈ vs → prs V.ox ≠ [] → b ≠ V.g) ∧ av.ownBlock ≠ some b) : Vs A n tb base i S t fs c vs av w' := by
  have hlow := h.low
  refine ⟨h.tr.other o (fun hm => by have := (hX _ hm).1; omega) (fun k hk hm => by have := (hX _ hm).1; have := hlow.1 k hk; omega), h.fre, h.low, h.cle, h.tle, fun V hV => ?_, ownsRow_only h.own o (fun b hb hm => (hX b hm).2.2 hb), h.one, h.apart, h.many⟩
  obtain ⟨h1, h2, h3, h4, h5⟩ := h.each V hV
  exact ⟨h1, h2.only2 o (fun he hm => (hX _ hm).2.1 V hV he rfl), h3, h4, fun e => Nat.lt_of_lt_of_le (h5 e) o.size⟩

theorem Vs.plain (h : Vs A n tb base i S t fs c vs av w) (o : Only [] w w') : Vs A n tb base i S t fs c vs av w' := h.only o (by simp)

theorem Vs.len (h : Vs A n tb base i S t fs c vs av w) : fs.length ≤ n := nodup_length n fs h.fre.nodup (fun x hx => by have := h.fre.rng x hx; omega)

end

/-- One version more. -/
theorem Vs.snoc {A : PA} {n tb base i : Nat} {S : Nat → Sl} {t c : Int} {fs : List Nat} {vs : List Ve} {av av' : Value} {X : List Nat} {w w' : World} {V : Ve} (h : Vs A n tb base i S t fs c vs av w) (hV : VeOk n S base i w V) (hown : w'.ownsRow base 33 2 av' (vs.length + 1) (vesC S vs ++ veC S V)) (o : Only X w w') (hX : ∀ b, b ∈ X → av.ownBlock = some b)
    (hat : ∀ b, av'.ownBlock = some b → av.ownBlock = some b ∨ w.heap.size ≤ b) (hVa : prs V.ox ≠ [] → av.ownBlock ≠ some V.g) (hm : vs.length ≤ i) : Vs A n tb base i S t fs c (vs ++ [V]) av' w' := by
  have hge : ∀ b, b ∈ X → base ≤ b := fun b hb => (h.own.lt b (hX b hb)).1
  have hall : ∀ U, U ∈ vs ++ [V] → VeOk n S base i w U ∧ (prs U.ox ≠ [] → av.ownBlock ≠ some U.g) := by
    intro U hU
    rcases List.mem_append.1 hU with hU | hU
    · exact ⟨h.each U hU, h.apart U hU⟩
    · simp at hU; subst hU; exact ⟨hV, hVa⟩
  refine ⟨h.tr.other o (fun hm => by have := hge _ hm; have := h.low.2; omega) (fun k hk hm => by have := hge _ hm; have := h.low.1 k hk; omega), h.fre, h.low, h.cle, h.tle, fun U hU => ?_, ?_, by simp, fun U hU he e => ?_, by simp; omega⟩
  · exact (hall U hU).1.only2 o (fun he hm => (hall U hU).2 he (hX _ hm))
  · rw [vesC_snoc, List.length_append]; exact hown
  · rcases hat _ e with h1 | h1
    · exact (hall U hU).2 he h1
    · have := (hall U hU).1.lt he; omega

theorem set_five (W : World) (b : Nat) (x0 x1 x2 x3 x4 : Value) : Only [b] W (((((W.setCell ⟨b, 0, none⟩ x0).setCell ⟨b, 1, none⟩ x1).setCell ⟨b, 2, none⟩ x2).setCell ⟨b, 3, none⟩ x3).setCell ⟨b, 4, none⟩ x4) := ((((Only.setCell W (by simp) x0).trans (Only.setCell _ (by simp) x1)).trans (Only.setCell _ (by simp) x2)).trans (Only.setCell _ (by simp) x3)).trans (Only.setCell _ (by simp) x4)

/-- A change. -/
structure Chg where
  of : Int
  k : Int
  v : Int
  d : Bool

/-- The row that a change makes. -/
def chgL (l : List KV) (c : Chg) : List KV := if c.d then lessL l c.k else withL l c.k c.v

theorem lessL_length (l : List KV) (k : Int) : (lessL l k).length ≤ l.length := by
  unfold lessL
  have := whr_le l k
  simp only [List.length_append, List.length_take, List.length_drop]
  omega

theorem chgL_length (l : List KV) (c : Chg) : (chgL l c).length ≤ l.length + 1 := by
  unfold chgL
  split
  · have := lessL_length l c.k; omega
  · exact withL_length l c.k c.v

theorem changed_any {A : PA} {n : Nat} {S0 : Nat → Sl} {fs0 : List Nat} {t0 fa c0 : Int} {tb g : Nat} {ao : Option Addr} {cap : Nat} {ox : Option Tr} {c : Chg} {w : World} (T : TrAt w tb A n S0 t0 fs0 fa) (F : Fre n S0 fs0 c0) (hc : c0 < 999998) (ht : t0 + 2 * fs0.length ≤ 1000000) (R : RepO n S0 ox) (hrow : RowP w g ao cap (prs ox)) (hgA : g ∉ A.all) (hl : (prs ox).length ≤ 1000) :
    Calls Try.prog 10 #[.pointer (some ⟨A.p, 0, none⟩), .pointer (some ⟨tb, 0, none⟩), .agg #[.int .i64 (rootOf S0 ox), .slice ao (prs ox).length cap], .agg #[.int .i64 c.of, .int .i64 c.k, .int .i64 c.v, .bool c.d]] w fun e w' =>
      (∃ old had, ChgOk A n S0 fs0 t0 fa tb ox old had (chgL (prs ox) c) w e w') ∨ ChgNo A n S0 fs0 t0 fa tb w e w' ∨ ChgErr w e w' := by
  obtain ⟨of, k, v, d⟩ := c
  by_cases h1 : k < 0
  · cases d
    · exact (changed_put_low T F hc ht R hrow hgA hl h1).mono fun _ _ h => Or.inr (Or.inr h)
    · exact (changed_drop_low T F hc ht R hrow hgA hl h1).mono fun _ _ h => Or.inr (Or.inr h)
  by_cases h2 : 4294967295 < k
  · cases d
    · exact (changed_put_high T F hc ht R hrow hgA hl h2).mono fun _ _ h => Or.inr (Or.inr h)
    · exact (changed_drop_high T F hc ht R hrow hgA hl h2).mono fun _ _ h => Or.inr (Or.inr h)
  have hk : InK k := ⟨by omega, by omega⟩
  cases d
  · exact (changed_put T F hc ht R hrow hgA hl hk).mono fun _ _ h => h.imp (fun h => ⟨_, _, h⟩) Or.inl
  · cases hh : (valL (prs ox) k).2
    · exact (changed_drop_none T F hc ht R hrow hgA hl hk hh).mono fun _ _ h => Or.inr (Or.inr h)
    · exact (changed_drop T F hc ht R hrow hgA hl hk hh).mono fun _ _ h => h.imp (fun h => ⟨_, _, h⟩) Or.inl

/-- What a change leaves: a new version, or none. -/
def StepPost (A : PA) (n tb base i : Nat) (vs : List Ve) (av : Value) (w : World) (e : Ending) (w' : World) : Prop :=
  ∃ (S : Nat → Sl) (t : Int) (fs : List Nat) (c : Int) (ed0 ed1 ed2 ed3 ed4 : Value) (po : Option Addr), e = .returned (.tuple #[.pointer po, .agg #[ed0, ed1, ed2, ed3, ed4], .bool true]) ∧ (∃ x y z, ed0 = .int .i64 x ∧ ed1 = .int .i64 y ∧ ed2 = .bool z) ∧ (∃ a b c, ed3 = .slice a b c) ∧ (∃ a b c, ed4 = .slice a b c) ∧
    Vs A n tb base (i + 1) S t fs c vs av w' ∧ Only A.all w w' ∧
    (po = none ∨ ∃ V vb, po = some ⟨vb, 0, none⟩ ∧ VeOk n S base (i + 1) w' V ∧ w.heap.size ≤ V.g ∧ w.heap.size ≤ vb ∧ Blk w' vb #[.int .i64 (rootOf S V.ox), .slice V.ao (prs V.ox).length V.cap] 33)

/-- The row of versions, opened. -/
theorem Vs.open {A : PA} {n tb base i : Nat} {S : Nat → Sl} {t c : Int} {fs : List Nat} {vs : List Ve} {av : Value} {w : World} (h : Vs A n tb base i S t fs c vs av w) : ∃ g cap, av = .slice (some ⟨g, 0, none⟩) vs.length cap ∧ base ≤ g ∧ g < w.heap.size ∧ vs.length ≤ cap ∧ ∀ j V, vs[j]? = some V → w.cell? ⟨g, j * 2, none⟩ = some (.int .i64 (rootOf S V.ox)) ∧ w.cell? ⟨g, j * 2 + 1, none⟩ = some (.slice V.ao (prs V.ox).length V.cap) := by
  have h1 := h.one
  rcases h.own.2 with ⟨_, h0⟩ | ⟨g, cap, cur, rfl, hg, hb, hnc, _⟩
  · omega
  · refine ⟨g, cap, rfl, hg, (Array.getElem?_eq_some_iff.1 hb).1, hnc, fun j V hV => ?_⟩
    obtain ⟨h1, h2⟩ := vesC_at S hV
    have a1 := h.own.cells (g := g) rfl _ _ h1
    have a2 := h.own.cells (g := g) rfl _ _ h2
    rw [Addr.add_lit, Nat.zero_add] at a1 a2
    exact ⟨a1, a2⟩

theorem step_changed {A : PA} {n tb base i : Nat} {S : Nat → Sl} {t c : Int} {fs : List Nat} {vs : List Ve} {av : Value} {w : World} {V : Ve} {ch : Chg} (h : Vs A n tb base i S t fs c vs av w) (hn : n ≤ 4096) (hi : i ≤ 119) (hV : V ∈ vs) (hb : base ≤ w.heap.size) :
    Calls Try.prog 10 #[.pointer (some ⟨A.p, 0, none⟩), .pointer (some ⟨tb, 0, none⟩), .agg #[.int .i64 (rootOf S V.ox), .slice V.ao (prs V.ox).length V.cap], .agg #[.int .i64 ch.of, .int .i64 ch.k, .int .i64 ch.v, .bool ch.d]] w (StepPost A n tb base i vs av w) := by
  have hO := h.each V hV
  have hfl := h.len
  have hc := h.cle
  have ht := h.tle
  have hl := hO.len
  refine (changed_any (c := ch) h.tr h.fre (by omega) (by omega) hO.rep hO.row (fun hm => by have := h.low.1 _ hm; have := hO.off; omega) (by omega)).mono ?_
  rintro e w' (⟨old, had, hOk⟩ | hNo | hE)
  · obtain ⟨oy, S', t', m, gs, rest, gv, mv, vb, g, ao, cap, rfl, hR, hP, hM, hT, hgv, hmv, _, _, _, hm34, hB, hvb, hRow, hg, hg2, hX⟩ := hOk
    have htag := hM.tag
    have hlen := chgL_length (prs V.ox) ch
    obtain ⟨ga, gc, rfl⟩ := own_slice_any hgv
    obtain ⟨ma, mc, rfl⟩ := own_slice_any hmv
    refine ⟨S', t', fs.drop m, c + 1, _, _, _, _, _, _, rfl, ⟨_, _, _, rfl, rfl, rfl⟩, ⟨_, _, _, rfl⟩, ⟨_, _, _, rfl⟩, h.move hT (hM.fre h.fre) (fun i hi => hM.old i (fun hm => hi (List.mem_of_mem_take hm))) hX h.low.1 (by omega) (by omega), hX, Or.inr ⟨⟨oy, g, ao, cap⟩, vb, rfl, ⟨hR, by rw [hP]; exact hRow, by show base ≤ g; omega, by show (prs oy).length ≤ i + 1; rw [hP]; omega, fun hne => hg2 (by rw [← hP]; exact hne)⟩, hg, hvb, by rw [hP]; exact hB⟩⟩
  · obtain ⟨rfl, S', t', hT, hU, ht', hX⟩ := hNo
    refine ⟨S', t', fs, c + 2, _, _, _, _, _, none, rfl, ⟨_, _, _, rfl, rfl, rfl⟩, ⟨_, _, _, rfl⟩, ⟨_, _, _, rfl⟩, h.move hT (hU.fre h.fre) hU.old hX h.low.1 (by omega) (by omega), hX, Or.inl rfl⟩
  · obtain ⟨rfl, hX⟩ := hE
    refine ⟨S, t, fs, c, _, _, _, _, _, none, rfl, ⟨_, _, _, rfl, rfl, rfl⟩, ⟨_, _, _, rfl⟩, ⟨_, _, _, rfl⟩, h.move (h.tr.plain hX) h.fre (fun _ _ => rfl) hX (by simp) (by omega) (by omega), hX.mono (by simp), Or.inl rfl⟩

end Go.Proofs.Ytacegkjobfeiiaa

namespace Go.Proofs.Ytacegkjobfeiiaa
open Go.RowKit

/-- The changes' cells. -/
def ChgsAt (w : World) (b o len : Nat) (O : Nat → Chg) : Prop := ∀ i, i < len → w.cell? ⟨b, o + i * 4, none⟩ = some (.int .i64 (O i).of) ∧ w.cell? ⟨b, o + i * 4 + 1, none⟩ = some (.int .i64 (O i).k) ∧ w.cell? ⟨b, o + i * 4 + 2, none⟩ = some (.int .i64 (O i).v) ∧ w.cell? ⟨b, o + i * 4 + 3, none⟩ = some (.bool (O i).d)

/-- (a % n + n) % n, n > 0: a place. -/
theorem place_of (a : Int) (n : Nat) (hn : 1 ≤ n) (hn2 : n ≤ 1000) : ∃ j : Nat, j < n ∧ -(1000 : Int) < a.tmod n ∧ a.tmod n < 1000 ∧ (a.tmod n + n).tmod n = j := by
  have h1 : a.tmod n < n := Int.tmod_lt_of_pos a (by omega)
  have h2 : -(n : Int) < a.tmod n := by
    by_cases h : 0 ≤ a
    · have := Int.tmod_nonneg (n : Int) h; omega
    · have e : a.tmod n = -((-a).tmod n) := by rw [Int.neg_tmod]; omega
      have := Int.tmod_lt_of_pos (-a) (show (0 : Int) < n by omega)
      omega
  generalize a.tmod n = t at *
  have h3 : (t + n).tmod n = (t + n) % n := Int.tmod_eq_emod_of_nonneg (by omega)
  have h4 := Int.emod_nonneg (t + n) (show (n : Int) ≠ 0 by omega)
  have h5 := Int.emod_lt_of_pos (t + n) (show (0 : Int) < n by omega)
  exact ⟨((t + n) % n).toNat, by omega, by omega, by omega, by rw [h3]; omega⟩

end Go.Proofs.Ytacegkjobfeiiaa

