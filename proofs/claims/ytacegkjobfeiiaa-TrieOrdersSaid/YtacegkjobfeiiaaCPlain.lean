/- Maps as trees: spans, pairs, the way down to a key, and a way made anew. Plain laws: no program. · Places at which keys part: the fork of a new leaf and what stands there. Plain laws: no program. · What two maps differ in, as lists; counting, choosing, the next one. Plain laws: no program. · A block of int64 cells told by a function, and slots of seven cells each. No condition. · Rows of pairs by key, as the statement's own functions make them; what a way tells of a key. Plain laws: no program. · What two rows differ in, laid on the first, is the second. Plain laws: no program. · A block of cells told by a function; a slice value that reads as a list of integers. No condition. -/
import Derived.Test.YtacegkjobfeiiaaCLib
set_option linter.unusedVariables false
set_option linter.unusedSimpArgs false
set_option linter.unusedSectionVars false
set_option linter.unnecessarySimpa false
namespace Go.Proofs.Ytacegkjobfeiiaa

/-- 2 to the p, as an integer. -/
def pw (p : Nat) : Int := ((2 ^ p : Nat) : Int)
theorem pw_pos (p : Nat) : 0 < pw p := by unfold pw; have : 0 < 2 ^ p := Nat.pow_pos (by decide); omega
theorem pw_succ (p : Nat) : pw (p + 1) = 2 * pw p := by unfold pw; rw [Nat.pow_succ]; omega

inductive Tr where
  | leaf (i : Nat) (k v : Int)
  | node (i : Nat) (p : Nat) (f : Int) (l r : Tr)

namespace Tr
def slot : Tr → Nat
  | leaf i _ _ => i
  | node i _ _ _ _ => i
def lo : Tr → Int
  | leaf _ k _ => k
  | node _ _ f _ _ => f
def hi : Tr → Int
  | leaf _ k _ => k
  | node _ p f _ _ => f + pw (p + 1) - 1
def cnt : Tr → Nat
  | leaf _ _ _ => 1
  | node _ _ _ l r => l.cnt + r.cnt
def pairs : Tr → List (Int × Int)
  | leaf _ k v => [(k, v)]
  | node _ _ _ l r => l.pairs ++ r.pairs
def slots : Tr → List Nat
  | leaf i _ _ => [i]
  | node i _ _ l r => i :: (l.slots ++ r.slots)
def wf : Tr → Prop
  | leaf _ k _ => 0 ≤ k ∧ k ≤ 4294967295
  | node _ p f l r => p < 32 ∧ (∃ q : Int, f = q * pw (p + 1)) ∧ 0 ≤ f ∧ f + pw (p + 1) - 1 ≤ 4294967295 ∧ l.wf ∧ r.wf ∧ f ≤ l.lo ∧ l.hi ≤ f + pw p - 1 ∧ f + pw p ≤ r.lo ∧ r.hi ≤ f + pw (p + 1) - 1
def half : Tr → Int
  | leaf _ k _ => k
  | node _ p f _ _ => f + pw p
def isLeaf : Tr → Bool
  | leaf _ _ _ => true
  | node _ _ _ _ _ => false

theorem cnt_pos : ∀ t : Tr, 1 ≤ t.cnt
  | leaf _ _ _ => Nat.le_refl _
  | node _ _ _ l r => by have := cnt_pos l; simp only [cnt]; omega

theorem cnt_pairs : ∀ t : Tr, t.pairs.length = t.cnt
  | leaf _ _ _ => rfl
  | node _ _ _ l r => by simp only [pairs, cnt, List.length_append, cnt_pairs l, cnt_pairs r]

theorem cnt_slots : ∀ t : Tr, t.slots.length + 1 = 2 * t.cnt
  | leaf _ _ _ => rfl
  | node _ _ _ l r => by have h1 := cnt_slots l; have h2 := cnt_slots r; simp only [slots, cnt, List.length_cons, List.length_append]; omega

theorem wf_span : ∀ {t : Tr}, t.wf → 0 ≤ t.lo ∧ t.lo ≤ t.hi ∧ t.hi ≤ 4294967295
  | leaf _ k _, h => by obtain ⟨h1, h2⟩ := h; exact ⟨h1, Int.le_refl _, h2⟩
  | node _ p f l r, h => by
    obtain ⟨_, _, h1, h2, _⟩ := h
    have := pw_pos (p + 1)
    simp only [lo, hi]
    omega

theorem wf_keys : ∀ {t : Tr}, t.wf → ∀ x, x ∈ t.pairs → t.lo ≤ x.1 ∧ x.1 ≤ t.hi
  | leaf _ k v, _, x, hx => by simp [pairs] at hx; subst hx; exact ⟨Int.le_refl _, Int.le_refl _⟩
  | node _ p f l r, h, x, hx => by
    obtain ⟨_, _, h1, h2, hl, hr, h3, h4, h5, h6⟩ := h
    have hp := pw_pos p
    have hs := pw_succ p
    simp only [pairs, List.mem_append] at hx
    simp only [lo, hi]
    rcases hx with hx | hx
    · have := wf_keys hl x hx; omega
    · have := wf_keys hr x hx; omega

/-- Keys rise. -/
def rising : List (Int × Int) → Prop
  | [] => True
  | a :: r => (∀ b, b ∈ r → a.1 < b.1) ∧ rising r

theorem rising_append : ∀ {a b : List (Int × Int)}, rising (a ++ b) ↔ rising a ∧ rising b ∧ ∀ x, x ∈ a → ∀ y, y ∈ b → x.1 < y.1
  | [], b => by simp [rising]
  | x :: a, b => by
    simp only [List.cons_append, rising, rising_append (a := a) (b := b), List.mem_append, List.mem_cons]
    constructor
    · rintro ⟨h1, h2, h3, h4⟩
      refine ⟨⟨fun y hy => h1 y (Or.inl hy), h2⟩, h3, fun y hy z hz => ?_⟩
      rcases hy with rfl | hy
      · exact h1 z (Or.inr hz)
      · exact h4 y hy z hz
    · rintro ⟨⟨h1, h2⟩, h3, h4⟩
      refine ⟨fun y hy => ?_, h2, h3, fun y hy z hz => h4 y (Or.inr hy) z hz⟩
      rcases hy with hy | hy
      · exact h1 y hy
      · exact h4 x (Or.inl rfl) y hy

theorem wf_rising : ∀ {t : Tr}, t.wf → rising t.pairs
  | leaf _ _ _, _ => by simp [pairs, rising]
  | node _ p f l r, h => by
    obtain ⟨_, _, _, _, hl, hr, h3, h4, h5, h6⟩ := h
    refine rising_append.2 ⟨wf_rising hl, wf_rising hr, fun x hx y hy => ?_⟩
    have := wf_keys hl x hx
    have := wf_keys hr y hy
    omega
end Tr

/-- A step on the way: the node gone through, whether to its right. -/
structure Stp where
  i : Nat
  p : Nat
  f : Int
  l : Tr
  r : Tr
  right : Bool

namespace Stp
def whole (s : Stp) : Tr := .node s.i s.p s.f s.l s.r
def into (s : Stp) : Tr := if s.right then s.r else s.l
/-- The node made anew at slot j, with t in the place of what was gone to. -/
def anew (s : Stp) (j : Nat) (t : Tr) : Tr := if s.right then .node j s.p s.f s.l t else .node j s.p s.f t s.r
def before (s : Stp) : List (Int × Int) := if s.right then s.l.pairs else []
def behind (s : Stp) : List (Int × Int) := if s.right then [] else s.r.pairs
/-- Where what it went to must lie. -/
def lo (s : Stp) : Int := if s.right then s.f + pw s.p else s.f
def hi (s : Stp) : Int := if s.right then s.f + pw (s.p + 1) - 1 else s.f + pw s.p - 1
def other (s : Stp) : Tr := if s.right then s.l else s.r
end Stp

/-- The way down by a key: the steps, the node at which it ends. -/
def down : Tr → Int → List Stp × Tr
  | .leaf i a v, _ => ([], .leaf i a v)
  | .node i p f l r, k =>
    if f ≤ k ∧ k ≤ f + pw (p + 1) - 1 then
      if f + pw p ≤ k then (⟨i, p, f, l, r, true⟩ :: (down r k).1, (down r k).2) else (⟨i, p, f, l, r, false⟩ :: (down l k).1, (down l k).2)
    else ([], .node i p f l r)

/-- A way and what hangs at its end are one tree. -/
def Way : Tr → List Stp → Tr → Prop
  | t, [], n => t = n
  | t, s :: w, n => t = s.whole ∧ Way s.into w n

theorem down_way : ∀ (t : Tr) (k : Int), Way t (down t k).1 (down t k).2
  | .leaf i a v, k => rfl
  | .node i p f l r, k => by
    unfold down
    split
    · split
      · exact ⟨rfl, down_way r k⟩
      · exact ⟨rfl, down_way l k⟩
    · rfl

/-- The key lies in the span of each step's half; at the end it lies in no span, or stands at a leaf. -/
def On (k : Int) : List Stp → Prop
  | [] => True
  | s :: w => s.lo ≤ k ∧ k ≤ s.hi ∧ On k w

theorem down_on : ∀ (t : Tr) (k : Int), On k (down t k).1
  | .leaf i a v, k => trivial
  | .node i p f l r, k => by
    unfold down
    split
    · rename_i h
      have := pw_succ p
      split
      · rename_i h2
        exact ⟨by simp only [Stp.lo]; simp; omega, by simp only [Stp.hi]; simp; omega, down_on r k⟩
      · rename_i h2
        exact ⟨by simp only [Stp.lo]; simp; omega, by simp only [Stp.hi]; simp; omega, down_on l k⟩
    · trivial

theorem down_end : ∀ (t : Tr) (k : Int), (∃ i a v, (down t k).2 = .leaf i a v) ∨ (∃ i p f l r, (down t k).2 = .node i p f l r ∧ ¬ (f ≤ k ∧ k ≤ f + pw (p + 1) - 1))
  | .leaf i a v, k => .inl ⟨i, a, v, rfl⟩
  | .node i p f l r, k => by
    unfold down
    split
    · split
      · exact down_end r k
      · exact down_end l k
    · rename_i h
      exact .inr ⟨i, p, f, l, r, rfl, h⟩

def beforeAll : List Stp → List (Int × Int)
  | [] => []
  | s :: w => s.before ++ beforeAll w
def behindAll : List Stp → List (Int × Int)
  | [] => []
  | s :: w => behindAll w ++ s.behind

theorem way_pairs : ∀ {w : List Stp} {t n : Tr}, Way t w n → t.pairs = beforeAll w ++ n.pairs ++ behindAll w
  | [], t, n, h => by
    have h : t = n := h
    subst h; simp [beforeAll, behindAll]
  | s :: w, t, n, h => by
    obtain ⟨rfl, h⟩ := h
    have ih := way_pairs h
    unfold Stp.into at ih
    unfold beforeAll behindAll Stp.before Stp.behind Stp.whole
    cases hr : s.right with
    | true => rw [hr] at ih; simp at ih; simp [Tr.pairs, ih]
    | false => rw [hr] at ih; simp at ih; simp [Tr.pairs, ih]

theorem into_wf {s : Stp} (h : s.whole.wf) : s.into.wf ∧ s.lo ≤ s.into.lo ∧ s.into.hi ≤ s.hi := by
  obtain ⟨_, _, _, _, hl, hr, a1, a2, a3, a4⟩ := h
  unfold Stp.into Stp.lo Stp.hi
  cases hs : s.right with
  | true => exact ⟨hr, a3, a4⟩
  | false => exact ⟨hl, a1, a2⟩

theorem way_wf : ∀ {w : List Stp} {t n : Tr}, Way t w n → t.wf → n.wf ∧ ∀ s, s ∈ w → s.whole.wf
  | [], t, n, h, ht => by
    have h : t = n := h
    subst h; exact ⟨ht, fun s hs => by simp at hs⟩
  | s :: w, t, n, h, ht => by
    obtain ⟨rfl, h⟩ := h
    obtain ⟨h1, h2⟩ := way_wf h (into_wf ht).1
    exact ⟨h1, fun x hx => by rcases List.mem_cons.1 hx with rfl | hx; exact ht; exact h2 x hx⟩

/-- What must lie below and above a key that the way is on. -/
theorem before_lt {k : Int} : ∀ {w : List Stp}, On k w → (∀ s, s ∈ w → s.whole.wf) → ∀ x, x ∈ beforeAll w → x.1 < k
  | [], _, _, x, hx => by simp [beforeAll] at hx
  | s :: w, ho, hw, x, hx => by
    obtain ⟨h1, h2, h3⟩ := ho
    simp only [beforeAll, List.mem_append] at hx
    rcases hx with hx | hx
    · obtain ⟨_, _, _, _, hl, hr, a1, a2, a3, a4⟩ := hw s (by simp)
      unfold Stp.before at hx
      unfold Stp.lo at h1
      cases hs : s.right with
      | true =>
        rw [hs] at hx h1
        simp at hx h1
        have := Tr.wf_keys hl x hx
        omega
      | false => rw [hs] at hx; simp at hx
    · exact before_lt h3 (fun y hy => hw y (by simp [hy])) x hx

theorem behind_lt {k : Int} : ∀ {w : List Stp}, On k w → (∀ s, s ∈ w → s.whole.wf) → ∀ x, x ∈ behindAll w → k < x.1
  | [], _, _, x, hx => by simp [behindAll] at hx
  | s :: w, ho, hw, x, hx => by
    obtain ⟨h1, h2, h3⟩ := ho
    simp only [behindAll, List.mem_append] at hx
    rcases hx with hx | hx
    · exact behind_lt h3 (fun y hy => hw y (by simp [hy])) x hx
    · obtain ⟨_, _, _, _, hl, hr, a1, a2, a3, a4⟩ := hw s (by simp)
      unfold Stp.behind at hx
      unfold Stp.hi at h2
      cases hs : s.right with
      | true => rw [hs] at hx; simp at hx
      | false =>
        rw [hs] at hx h2
        simp at hx h2
        have := Tr.wf_keys hr x hx
        omega

/-- A way made anew, from below: the slots taken are the first of fs. -/
def rebuild : List Stp → Tr → List Nat → Tr × List Nat
  | [], t, fs => (t, fs)
  | s :: w, t, fs => (s.anew ((rebuild w t fs).2.headD 0) (rebuild w t fs).1, (rebuild w t fs).2.tail)

theorem rebuild_fs : ∀ (w : List Stp) (t : Tr) (fs : List Nat), (rebuild w t fs).2 = fs.drop w.length
  | [], t, fs => by simp [rebuild]
  | s :: w, t, fs => by simp [rebuild, rebuild_fs w t fs]

theorem rebuild_pairs : ∀ (w : List Stp) (t : Tr) (fs : List Nat), (rebuild w t fs).1.pairs = beforeAll w ++ t.pairs ++ behindAll w
  | [], t, fs => by simp [rebuild, beforeAll, behindAll]
  | s :: w, t, fs => by
    have ih := rebuild_pairs w t fs
    unfold rebuild beforeAll behindAll Stp.anew Stp.before Stp.behind
    cases hs : s.right <;> simp [Tr.pairs, ih]

theorem anew_wf {s : Stp} (h : s.whole.wf) {t : Tr} (ht : t.wf) (h1 : s.lo ≤ t.lo) (h2 : t.hi ≤ s.hi) (j : Nat) : (s.anew j t).wf := by
  obtain ⟨p32, hq, f0, fM, hl, hr, a1, a2, a3, a4⟩ := h
  unfold Stp.lo at h1
  unfold Stp.hi at h2
  unfold Stp.anew
  cases hs : s.right with
  | true => rw [hs] at h1 h2; exact ⟨p32, hq, f0, fM, hl, ht, a1, a2, h1, h2⟩
  | false => rw [hs] at h1 h2; exact ⟨p32, hq, f0, fM, ht, hr, h1, h2, a3, a4⟩

theorem anew_span (s : Stp) (t : Tr) (j : Nat) : (s.anew j t).lo = s.whole.lo ∧ (s.anew j t).hi = s.whole.hi := by
  unfold Stp.anew Stp.whole
  cases s.right <;> exact ⟨rfl, rfl⟩

/-- The new tree is well formed, where what is hung in lies in the last step's half. -/
theorem rebuild_wf : ∀ {w : List Stp} {t n t' : Tr}, Way t w n → t.wf → t'.wf → (∀ s, w.getLast? = some s → s.lo ≤ t'.lo ∧ t'.hi ≤ s.hi) → ∀ (fs : List Nat), (rebuild w t' fs).1.wf ∧ (w ≠ [] → (rebuild w t' fs).1.lo = t.lo ∧ (rebuild w t' fs).1.hi = t.hi)
  | [], t, n, t', h, ht, ht', hlo, fs => ⟨ht', fun h => absurd rfl h⟩
  | s :: w, t, n, t', h, ht, ht', hlo, fs => by
    obtain ⟨rfl, h⟩ := h
    obtain ⟨iw, i1, i2⟩ := into_wf ht
    have hlast : ∀ x, w.getLast? = some x → x.lo ≤ t'.lo ∧ t'.hi ≤ x.hi := fun x hx => hlo x (by
      cases w with
      | nil => simp at hx
      | cons y w => rw [List.getLast?_cons_cons]; exact hx)
    obtain ⟨h1, h2⟩ := rebuild_wf h iw ht' hlast fs
    have hb : s.lo ≤ (rebuild w t' fs).1.lo ∧ (rebuild w t' fs).1.hi ≤ s.hi := by
      by_cases hw : w = []
      · subst hw
        exact hlo s (by simp)
      · obtain ⟨e1, e2⟩ := h2 hw
        rw [e1, e2]
        exact ⟨i1, i2⟩
    exact ⟨anew_wf ht h1 hb.1 hb.2 _, fun _ => anew_span s _ _⟩

end Go.Proofs.Ytacegkjobfeiiaa

namespace Go.Proofs.Ytacegkjobfeiiaa

theorem pw_add (a b : Nat) : pw (a + b) = pw a * pw b := by unfold pw; rw [Nat.pow_add]; exact Int.natCast_mul _ _
theorem pw_zero : pw 0 = 1 := rfl
theorem pw_32 : pw 32 = 4294967296 := by decide

theorem div_up {x y : Int} {m m' : Nat} (h : x / pw m = y / pw m) (hm : m ≤ m') : x / pw m' = y / pw m' := by
  obtain ⟨d, rfl⟩ := Nat.exists_eq_add_of_le hm
  rw [pw_add, ← Int.ediv_ediv_of_nonneg (Int.le_of_lt (pw_pos m)), ← Int.ediv_ediv_of_nonneg (Int.le_of_lt (pw_pos m)), h]

theorem div_range (x : Int) (m : Nat) : x / pw m * pw m ≤ x ∧ x < x / pw m * pw m + pw m := by
  have hp := pw_pos m
  refine ⟨Int.ediv_mul_le x (by omega), ?_⟩
  have := Int.lt_ediv_add_one_mul_self x hp
  rwa [Int.add_mul, Int.one_mul] at this

theorem div_of {x q : Int} {m : Nat} (h1 : q * pw m ≤ x) (h2 : x < q * pw m + pw m) : x / pw m = q := by
  have hp := pw_pos m
  apply Int.le_antisymm
  · have : x / pw m < q + 1 := (Int.ediv_lt_iff_lt_mul hp).2 (by rw [Int.add_mul, Int.one_mul]; exact h2)
    omega
  · exact (Int.le_ediv_iff_mul_le hp).2 h1

theorem half_of (x : Int) (p : Nat) : x / pw p = 2 * (x / pw (p + 1)) ∨ x / pw p = 2 * (x / pw (p + 1)) + 1 := by
  have : x / pw (p + 1) = x / pw p / 2 := by
    rw [pw_add, ← Int.ediv_ediv_of_nonneg (Int.le_of_lt (pw_pos p))]; rfl
  rw [this]
  omega

/-- The place at which two numbers part. -/
structure Plc (a b : Int) (p : Nat) : Prop where
  same : a / pw (p + 1) = b / pw (p + 1)
  diff : ¬ a / pw p = b / pw p

theorem Plc.lt {a b : Int} {p : Nat} (h : Plc a b p) (ha : 0 ≤ a ∧ a ≤ 4294967295) (hb : 0 ≤ b ∧ b ≤ 4294967295) : p < 32 := by
  by_cases hp : p < 32
  · exact hp
  · exfalso
    apply h.diff
    have h32 := pw_32
    have e1 : a / pw 32 = 0 := div_of (by omega) (by omega)
    have e2 : b / pw 32 = 0 := div_of (by omega) (by omega)
    exact div_up (e1.trans e2.symm) (by omega)

/-- A new leaf and what stands there, below one node. -/
def fork (j p : Nat) (f k : Int) (new n : Tr) : Tr := if k < n.lo then .node j p f new n else .node j p f n new

theorem fork_span (j p : Nat) (f k : Int) (new n : Tr) : (fork j p f k new n).lo = f ∧ (fork j p f k new n).hi = f + pw (p + 1) - 1 := by
  unfold fork
  split <;> exact ⟨rfl, rfl⟩

theorem fork_cnt (j p : Nat) (f k : Int) (new n : Tr) : (fork j p f k new n).cnt = n.cnt + new.cnt := by
  unfold fork
  split <;> simp only [Tr.cnt] <;> omega

theorem fork_wf {k : Int} {n : Tr} {p : Nat} (hk : 0 ≤ k ∧ k ≤ 4294967295) (hn : n.wf) (hne : ¬ (n.lo ≤ k ∧ k ≤ n.hi)) (hp : Plc k n.lo p) (i j : Nat) (v : Int) :
    (fork j p (n.lo / pw (p + 1) * pw (p + 1)) k (.leaf i k v) n).wf ∧ (k < n.lo → n.hi ≥ k) ∧ (¬ k < n.lo → n.hi < k) := by
  obtain ⟨s0, s1, s2⟩ := Tr.wf_span hn
  have hp32 := hp.lt hk ⟨s0, by omega⟩
  have p0 := pw_pos p
  have ps := pw_succ p
  have hsame : n.hi / pw p = n.lo / pw p := by
    cases n with
    | leaf => rfl
    | node i2 pn fn l r =>
      obtain ⟨_, ⟨qn, hq⟩, f0, fM, _⟩ := hn
      simp only [Tr.lo, Tr.hi] at *
      have pn0 := pw_pos (pn + 1)
      have e1 : fn / pw (pn + 1) = qn := div_of (by omega) (by omega)
      have e2 : (fn + pw (pn + 1) - 1) / pw (pn + 1) = qn := div_of (by omega) (by omega)
      have hkq : ¬ k / pw (pn + 1) = qn := fun e => by
        have := div_range k (pn + 1)
        rw [e] at this
        omega
      have hlt : pn + 1 ≤ p := by
        by_cases h : pn + 1 ≤ p
        · exact h
        · exfalso
          apply hkq
          have := div_up hp.same (show p + 1 ≤ pn + 1 by omega)
          rw [this, e1]
      exact div_up (e2.trans e1.symm) hlt
  generalize hq : n.lo / pw (p + 1) = q
  have hkq : k / pw (p + 1) = q := hp.same.trans hq
  have r1 := div_range k (p + 1)
  have r2 := div_range n.lo (p + 1)
  rw [hkq] at r1
  rw [hq] at r2
  have k1 := div_range k p
  have l1 := div_range n.lo p
  have h1 := div_range n.hi p
  rw [hsame] at h1
  have hk2 := half_of k p
  have hl2 := half_of n.lo p
  rw [hkq] at hk2
  rw [hq] at hl2
  have hd := hp.diff
  generalize k / pw p = kq at *
  generalize n.lo / pw p = lq at *
  have hmul : ∀ z : Int, z * pw (p + 1) = 2 * z * pw p := fun z => by rw [ps, ← Int.mul_assoc, Int.mul_comm z 2]
  rw [hmul q] at r1 r2
  have hM : q * pw (p + 1) + pw (p + 1) - 1 ≤ 4294967295 := by
    have h32 := pw_32
    have e1 : n.lo / pw 32 = 0 := div_of (by omega) (by omega)
    have e2 : (q * pw (p + 1) + pw (p + 1) - 1) / pw (p + 1) = n.lo / pw (p + 1) := by rw [hq]; exact div_of (by omega) (by omega)
    have e3 := div_up e2 (show p + 1 ≤ 32 by omega)
    rw [e1] at e3
    have := div_range (q * pw (p + 1) + pw (p + 1) - 1) 32
    rw [e3] at this
    omega
  have hf0 : 0 ≤ q * pw (p + 1) := by
    have : 0 ≤ q := by rw [← hq]; exact Int.ediv_nonneg s0 (by omega)
    exact Int.mul_nonneg this (by omega)
  have hA : (2 * q + 1) * pw p = 2 * q * pw p + pw p := by rw [Int.add_mul, Int.one_mul]
  unfold fork
  rw [hmul q] at hM hf0 ⊢
  rcases hk2 with rfl | rfl <;> rcases hl2 with rfl | rfl
  · exact absurd rfl hd
  · rw [hA] at l1 h1
    have hlt : k < n.lo := by omega
    rw [if_pos hlt]
    exact ⟨⟨hp32, ⟨q, (hmul q).symm⟩, hf0, hM, hk, hn, by simp only [Tr.lo]; omega, by simp only [Tr.hi]; omega, by omega, by omega⟩, fun _ => by omega, fun h => absurd hlt h⟩
  · rw [hA] at k1
    have hlt : ¬ k < n.lo := by omega
    rw [if_neg hlt]
    exact ⟨⟨hp32, ⟨q, (hmul q).symm⟩, hf0, hM, hn, hk, by omega, by omega, by simp only [Tr.lo]; omega, by simp only [Tr.hi]; omega⟩, fun h => absurd h hlt, fun _ => by omega⟩
  · exact absurd rfl hd

theorem fork_pairs {j p : Nat} {f k v : Int} {i : Nat} {n : Tr} : (fork j p f k (.leaf i k v) n).pairs = if k < n.lo then (k, v) :: n.pairs else n.pairs ++ [(k, v)] := by
  unfold fork
  split <;> rfl

/-- The fork lies where the step's half lies. -/
theorem fork_in {s : Stp} {k : Int} {n : Tr} {p : Nat} (hs : s.whole.wf) (h1 : s.lo ≤ k) (h2 : k ≤ s.hi) (h3 : s.lo ≤ n.lo) (h4 : n.lo ≤ s.hi) (hp : Plc k n.lo p) :
    s.lo ≤ n.lo / pw (p + 1) * pw (p + 1) ∧ n.lo / pw (p + 1) * pw (p + 1) + pw (p + 1) - 1 ≤ s.hi := by
  obtain ⟨_, ⟨q, hq⟩, _⟩ := hs
  have hq : s.f = q * pw (s.p + 1) := hq
  have ps := pw_succ s.p
  have p0 := pw_pos s.p
  obtain ⟨q', e1, e2⟩ : ∃ q' : Int, s.lo = q' * pw s.p ∧ s.hi = q' * pw s.p + pw s.p - 1 := by
    have hm : q * pw (s.p + 1) = 2 * q * pw s.p := by rw [ps, ← Int.mul_assoc, Int.mul_comm q 2]
    unfold Stp.lo Stp.hi
    cases s.right with
    | true => exact ⟨2 * q + 1, by rw [Int.add_mul, Int.one_mul]; simp; omega, by rw [Int.add_mul, Int.one_mul]; simp; omega⟩
    | false => exact ⟨2 * q, by simp; omega, by simp; omega⟩
  have k1 : k / pw s.p = q' := div_of (by omega) (by omega)
  have l1 : n.lo / pw s.p = q' := div_of (by omega) (by omega)
  have hlt : p + 1 ≤ s.p := by
    by_cases h : p + 1 ≤ s.p
    · exact h
    · exact absurd (div_up (k1.trans l1.symm) (show s.p ≤ p by omega)) hp.diff
  generalize hz : n.lo / pw (p + 1) = z
  have pp := pw_pos (p + 1)
  have f1 : (z * pw (p + 1)) / pw (p + 1) = n.lo / pw (p + 1) := by rw [hz]; exact div_of (by omega) (by omega)
  have f2 : (z * pw (p + 1) + pw (p + 1) - 1) / pw (p + 1) = n.lo / pw (p + 1) := by rw [hz]; exact div_of (by omega) (by omega)
  have g1 := div_up f1 hlt
  have g2 := div_up f2 hlt
  rw [l1] at g1 g2
  have r1 := div_range (z * pw (p + 1)) s.p
  have r2 := div_range (z * pw (p + 1) + pw (p + 1) - 1) s.p
  rw [g1] at r1
  rw [g2] at r2
  omega

end Go.Proofs.Ytacegkjobfeiiaa

namespace Go.Proofs.Ytacegkjobfeiiaa
open Tr

abbrev KV := Int × Int

/-- What two rows of pairs differ in: the key, what was, what is. -/
inductive Ch2 where
  | del (k v : Int)
  | add (k v : Int)
  | chg (k v u : Int)

def Ch2.key : Ch2 → Int
  | del k _ => k
  | add k _ => k
  | chg k _ _ => k

def md : List KV → List KV → List Ch2
  | [], ys => ys.map fun y => .add y.1 y.2
  | x :: xs, [] => (x :: xs).map fun y => .del y.1 y.2
  | x :: xs, y :: ys =>
    if x.1 < y.1 then .del x.1 x.2 :: md xs (y :: ys)
    else if y.1 < x.1 then .add y.1 y.2 :: md (x :: xs) ys
    else if x.2 = y.2 then md xs ys else .chg x.1 x.2 y.2 :: md xs ys
  termination_by xs ys => xs.length + ys.length

theorem md_nil_right (xs : List KV) : md xs [] = xs.map fun y => .del y.1 y.2 := by
  cases xs <;> simp [md]

theorem md_nil_left (ys : List KV) : md [] ys = ys.map fun y => .add y.1 y.2 := by simp [md]

theorem md_same : ∀ xs : List KV, md xs xs = []
  | [] => by simp [md]
  | x :: xs => by
    rw [md]
    simp [md_same xs]

/-- Each key of the first two lies below each of the last two. -/
def Sep2 (a b : List KV) : Prop := ∀ x, x ∈ a → ∀ y, y ∈ b → x.1 < y.1

theorem md_app_left : ∀ (a b c : List KV), Sep2 a b → Sep2 a c → md (a ++ b) c = (a.map fun y => Ch2.del y.1 y.2) ++ md b c
  | [], b, c, _, _ => by simp
  | x :: a, b, [], _, _ => by rw [md_nil_right, md_nil_right]; simp
  | x :: a, b, y :: c, h1, h2 => by
    rw [List.cons_append, md, if_pos (h2 x (by simp) y (by simp)), md_app_left a b (y :: c) (fun u hu v hv => h1 u (by simp [hu]) v hv) (fun u hu v hv => h2 u (by simp [hu]) v hv)]
    simp

theorem md_app_right : ∀ (a b c : List KV), Sep2 b a → Sep2 b c → md a (b ++ c) = (b.map fun y => Ch2.add y.1 y.2) ++ md a c
  | a, [], c, _, _ => by simp
  | [], y :: b, c, _, _ => by rw [md_nil_left, md_nil_left]; simp
  | x :: a, y :: b, c, h1, h2 => by
    have hlt := h1 y (by simp) x (by simp)
    rw [List.cons_append, md, if_neg (by omega), if_pos hlt, md_app_right (x :: a) b c (fun u hu v hv => h1 u (by simp [hu]) v hv) (fun u hu v hv => h2 u (by simp [hu]) v hv)]
    simp

/-- Parted rows: part by part. -/
theorem md_split : ∀ (n : Nat) (a b c d : List KV), a.length + c.length ≤ n → Sep2 a b → Sep2 a d → Sep2 c b → Sep2 c d → md (a ++ b) (c ++ d) = md a c ++ md b d
  | 0, a, b, c, d, hn, _, _, _, _ => by
    obtain rfl : a = [] := List.eq_nil_of_length_eq_zero (by omega)
    obtain rfl : c = [] := List.eq_nil_of_length_eq_zero (by omega)
    simp [md]
  | n + 1, [], b, c, d, hn, h1, h2, h3, h4 => by
    rw [List.nil_append, md_nil_left]
    exact md_app_right b c d h3 h4
  | n + 1, x :: a, b, [], d, hn, h1, h2, h3, h4 => by
    rw [List.nil_append, md_nil_right]
    exact md_app_left (x :: a) b d h1 h2
  | n + 1, x :: a, b, y :: c, d, hn, h1, h2, h3, h4 => by
    simp only [List.length_cons] at hn
    rw [List.cons_append, List.cons_append, md, md]
    by_cases hlt : x.1 < y.1
    · rw [if_pos hlt, if_pos hlt]
      have := md_split n a b (y :: c) d (by simp only [List.length_cons]; omega) (fun u hu v hv => h1 u (by simp [hu]) v hv) (fun u hu v hv => h2 u (by simp [hu]) v hv) h3 h4
      rw [List.cons_append] at this
      rw [this]; simp
    · rw [if_neg hlt, if_neg hlt]
      by_cases hgt : y.1 < x.1
      · rw [if_pos hgt, if_pos hgt]
        have := md_split n (x :: a) b c d (by simp only [List.length_cons]; omega) h1 h2 (fun u hu v hv => h3 u (by simp [hu]) v hv) (fun u hu v hv => h4 u (by simp [hu]) v hv)
        rw [List.cons_append] at this
        rw [this]; simp
      · rw [if_neg hgt, if_neg hgt]
        have := md_split n a b c d (by omega) (fun u hu v hv => h1 u (by simp [hu]) v hv) (fun u hu v hv => h2 u (by simp [hu]) v hv) (fun u hu v hv => h3 u (by simp [hu]) v hv) (fun u hu v hv => h4 u (by simp [hu]) v hv)
        rw [this]
        split <;> simp

/-- A row's value at a key. -/
def val (l : List KV) (k : Int) : Option Int := (l.find? fun x => x.1 == k).map (·.2)
/-- A row with a key's value; without a key. -/
def ins (l : List KV) (k v : Int) : List KV := (l.filter fun x => decide (x.1 < k)) ++ (k, v) :: (l.filter fun x => decide (k < x.1))
def del (l : List KV) (k : Int) : List KV := l.filter fun x => decide (x.1 ≠ k)

/-- The least pair. -/
def Tr.least : Tr → KV
  | .leaf _ k v => (k, v)
  | .node _ _ _ l _ => l.least

theorem least_pairs : ∀ t : Tr, ∃ r, t.pairs = t.least :: r
  | .leaf _ k v => ⟨[], rfl⟩
  | .node _ _ _ l r => by
    obtain ⟨q, hq⟩ := least_pairs l
    exact ⟨q ++ r.pairs, by simp only [Tr.pairs, Tr.least, hq, List.cons_append]⟩

/-- The pair with so many before it. -/
def Tr.sel : Tr → Nat → KV
  | .leaf _ k v, _ => (k, v)
  | .node _ _ _ l r, i => if l.cnt ≤ i then r.sel (i - l.cnt) else l.sel i

theorem sel_pairs : ∀ (t : Tr) (i : Nat), i < t.cnt → t.pairs[i]? = some (t.sel i)
  | .leaf _ k v, i, h => by
    simp only [Tr.cnt] at h
    obtain rfl : i = 0 := by omega
    rfl
  | .node _ _ _ l r, i, h => by
    simp only [Tr.cnt] at h
    unfold Tr.pairs Tr.sel
    by_cases hl : l.cnt ≤ i
    · rw [if_pos hl, List.getElem?_append_right (by rw [Tr.cnt_pairs]; exact hl), Tr.cnt_pairs]
      exact sel_pairs r _ (by omega)
    · rw [if_neg hl, List.getElem?_append_left (by rw [Tr.cnt_pairs]; omega)]
      exact sel_pairs l i (by omega)

/-- How many keys are below one, along a way. -/
def rankAt (k : Int) : List Stp → Tr → Nat
  | [], n => if n.hi < k then n.cnt else 0
  | s :: w, n => (if s.right then s.l.cnt else 0) + rankAt k w n

/-- The first pair with a key from k on, along a way: none: there is none. -/
def nextAt (k : Int) : List Stp → Tr → Option KV
  | [], n => if k ≤ n.lo then some n.least else none
  | s :: w, n => match nextAt k w n with
    | some x => some x
    | none => if s.right then none else some s.r.least

theorem filter_all {l : List KV} {p : KV → Bool} (h : ∀ x, x ∈ l → p x = true) : l.filter p = l := List.filter_eq_self.2 h
theorem filter_none {l : List KV} {p : KV → Bool} (h : ∀ x, x ∈ l → p x = false) : l.filter p = [] := List.filter_eq_nil_iff.2 fun x hx => by simp [h x hx]

/-- The end of a way by a key: a leaf, or a node in whose span the key does not lie. -/
def Ends (k : Int) (n : Tr) : Prop := (∃ i a v, n = .leaf i a v) ∨ ¬ (n.lo ≤ k ∧ k ≤ n.hi)

theorem down_ends (t : Tr) (k : Int) : Ends k (down t k).2 := by
  rcases down_end t k with ⟨i, a, v, h⟩ | ⟨i, p, f, l, r, h, hn⟩
  · exact .inl ⟨i, a, v, h⟩
  · right; rw [h]; exact hn

theorem before_length : ∀ (w : List Stp), (beforeAll w).length = (w.map fun s => if s.right then s.l.cnt else 0).sum
  | [] => rfl
  | s :: w => by
    simp only [beforeAll, List.length_append, List.map_cons, List.sum_cons, before_length w]
    unfold Stp.before
    cases s.right <;> simp [Tr.cnt_pairs]

theorem rankAt_sum (k : Int) : ∀ (w : List Stp) (n : Tr), rankAt k w n = (w.map fun s => if s.right then s.l.cnt else 0).sum + if n.hi < k then n.cnt else 0
  | [], n => by simp [rankAt]
  | s :: w, n => by simp [rankAt, rankAt_sum k w n, Nat.add_assoc]

theorem rank_eq {t n : Tr} {w : List Stp} {k : Int} (h : Way t w n) (ht : t.wf) (ho : On k w) (he : Ends k n) : rankAt k w n = (t.pairs.filter fun x => decide (x.1 < k)).length := by
  obtain ⟨hn, hw⟩ := way_wf h ht
  rw [way_pairs h, List.filter_append, List.filter_append, List.length_append, List.length_append, rankAt_sum, ← before_length]
  rw [filter_all (l := beforeAll w) (fun x hx => by simpa using before_lt ho hw x hx), filter_none (l := behindAll w) (fun x hx => by have := behind_lt ho hw x hx; simp; omega)]
  have hs := Tr.wf_span hn
  by_cases hk : n.hi < k
  · rw [if_pos hk, filter_all (l := n.pairs) (fun x hx => by have := Tr.wf_keys hn x hx; simp; omega), Tr.cnt_pairs]; simp
  · rw [if_neg hk, filter_none (l := n.pairs) (fun x hx => by
      have := Tr.wf_keys hn x hx
      rcases he with ⟨i, a, v, rfl⟩ | he
      · simp only [Tr.lo, Tr.hi] at *; simp; omega
      · simp; omega)]
    simp

theorem find_none_app {p : KV → Bool} {a b : List KV} (h : ∀ x, x ∈ a → p x = false) : (a ++ b).find? p = b.find? p := by
  rw [List.find?_append]
  have : a.find? p = none := List.find?_eq_none.2 fun x hx => by simp [h x hx]
  rw [this]; rfl

theorem next_go {k : Int} : ∀ {w : List Stp} {n : Tr}, n.wf → On k w → (∀ s, s ∈ w → s.whole.wf) → Ends k n → nextAt k w n = (n.pairs ++ behindAll w).find? fun x => decide (k ≤ x.1)
  | [], n, hn, _, _, he => by
    have hs := Tr.wf_span hn
    obtain ⟨q, hq⟩ := least_pairs n
    have hl := Tr.wf_keys hn n.least (by rw [hq]; simp)
    unfold nextAt behindAll
    rw [List.append_nil]
    by_cases hk : k ≤ n.lo
    · rw [if_pos hk, hq, List.find?_cons, show decide (k ≤ n.least.1) = true by simp; omega]
    · rw [if_neg hk]
      symm
      refine List.find?_eq_none.2 fun x hx => ?_
      have := Tr.wf_keys hn x hx
      rcases he with ⟨i, a, v, rfl⟩ | he
      · simp only [Tr.lo, Tr.hi] at *; simp; omega
      · simp; omega
  | s :: w, n, hn, ho, hw, he => by
    have ih := next_go hn ho.2.2 (fun x hx => hw x (by simp [hx])) he
    have e : nextAt k (s :: w) n = match nextAt k w n with | some x => some x | none => if s.right then none else some s.r.least := rfl
    have e2 : n.pairs ++ behindAll (s :: w) = (n.pairs ++ behindAll w) ++ s.behind := by simp [behindAll]
    have e3 : ((n.pairs ++ behindAll w) ++ s.behind).find? (fun x => decide (k ≤ x.1)) = ((n.pairs ++ behindAll w).find? fun x => decide (k ≤ x.1)).or (s.behind.find? fun x => decide (k ≤ x.1)) := List.find?_append
    rw [e, e2, e3, ih]
    generalize (n.pairs ++ behindAll w).find? (fun x => decide (k ≤ x.1)) = F
    cases F with
    | some x => rfl
    | none =>
      unfold Stp.behind
      cases hs : s.right with
      | true => rfl
      | false =>
        obtain ⟨_, _, _, _, hl, hr, a1, a2, a3, a4⟩ := hw s (by simp)
        have hk := ho.2.1
        unfold Stp.hi at hk
        rw [hs] at hk
        simp at hk
        obtain ⟨q, hq⟩ := least_pairs s.r
        have h1 := Tr.wf_keys hr s.r.least (by rw [hq]; simp)
        simp only [Bool.false_eq_true, if_false]
        rw [hq, List.find?_cons, show decide (k ≤ s.r.least.1) = true by simp; omega]
        rfl

theorem next_eq {t n : Tr} {w : List Stp} {k : Int} (h : Way t w n) (ht : t.wf) (ho : On k w) (he : Ends k n) : nextAt k w n = t.pairs.find? fun x => decide (k ≤ x.1) := by
  obtain ⟨hn, hw⟩ := way_wf h ht
  rw [way_pairs h, List.append_assoc, find_none_app (fun x hx => by have := before_lt ho hw x hx; simp; omega)]
  exact next_go hn ho hw he

theorem ins_parts {a b c : List KV} {k v : Int} (ha : ∀ x, x ∈ a → x.1 < k) (hb : ∀ x, x ∈ b → x.1 = k) (hc : ∀ x, x ∈ c → k < x.1) : ins (a ++ b ++ c) k v = a ++ (k, v) :: c := by
  unfold ins
  rw [List.filter_append, List.filter_append, List.filter_append, List.filter_append]
  rw [filter_all (l := a) (fun x hx => by simpa using ha x hx), filter_none (l := b) (fun x hx => by have := hb x hx; simp; omega), filter_none (l := c) (p := fun x => decide (x.1 < k)) (fun x hx => by have := hc x hx; simp; omega),
    filter_none (l := a) (fun x hx => by have := ha x hx; simp; omega), filter_none (l := b) (fun x hx => by have := hb x hx; simp; omega), filter_all (l := c) (fun x hx => by simpa using hc x hx)]
  simp

theorem put_old {t : Tr} {w : List Stp} {i : Nat} {k v0 : Int} (h : Way t w (.leaf i k v0)) (ht : t.wf) (ho : On k w) (j : Nat) (v : Int) (fs : List Nat) : (rebuild w (.leaf j k v) fs).1.pairs = ins t.pairs k v := by
  obtain ⟨hn, hw⟩ := way_wf h ht
  rw [rebuild_pairs, way_pairs h, ins_parts (fun x hx => before_lt ho hw x hx) (fun x hx => by simp [Tr.pairs] at hx; subst hx; rfl) (fun x hx => behind_lt ho hw x hx)]
  simp [Tr.pairs]

theorem put_new {t n : Tr} {w : List Stp} {k : Int} (h : Way t w n) (ht : t.wf) (ho : On k w) (hne : ¬ (n.lo ≤ k ∧ k ≤ n.hi)) (i j p : Nat) (f v : Int) (fs : List Nat) : (rebuild w (fork j p f k (.leaf i k v) n) fs).1.pairs = ins t.pairs k v := by
  obtain ⟨hn, hw⟩ := way_wf h ht
  have hs := Tr.wf_span hn
  rw [rebuild_pairs, way_pairs h, fork_pairs]
  have ha := fun x hx => before_lt ho hw x hx
  have hc := fun x hx => behind_lt ho hw x hx
  by_cases hk : k < n.lo
  · rw [if_pos hk]
    have := ins_parts (a := beforeAll w) (b := []) (c := n.pairs ++ behindAll w) (k := k) (v := v) ha (by simp) (fun x hx => by
      rcases List.mem_append.1 hx with hx | hx
      · have := Tr.wf_keys hn x hx; omega
      · exact hc x hx)
    simp at this ⊢
    exact this.symm
  · rw [if_neg hk]
    have := ins_parts (a := beforeAll w ++ n.pairs) (b := []) (c := behindAll w) (k := k) (v := v) (fun x hx => by
      rcases List.mem_append.1 hx with hx | hx
      · exact ha x hx
      · have := Tr.wf_keys hn x hx; omega) (by simp) hc
    simp at this ⊢
    exact this.symm

theorem del_parts {a b c : List KV} {k : Int} (ha : ∀ x, x ∈ a → x.1 < k) (hb : ∀ x, x ∈ b → x.1 = k) (hc : ∀ x, x ∈ c → k < x.1) : del (a ++ b ++ c) k = a ++ c := by
  unfold del
  rw [List.filter_append, List.filter_append, filter_all (l := a) (fun x hx => by have := ha x hx; simp; omega), filter_none (l := b) (fun x hx => by have := hb x hx; simp; omega), filter_all (l := c) (fun x hx => by have := hc x hx; simp; omega)]
  simp

theorem way_last : ∀ {w : List Stp} {t n : Tr} {s : Stp}, Way t (w ++ [s]) n → Way t w s.whole ∧ n = s.into
  | [], t, n, s, h => by
    obtain ⟨rfl, h⟩ := h
    exact ⟨rfl, (show s.into = n from h).symm⟩
  | x :: w, t, n, s, h => by
    obtain ⟨rfl, h⟩ := h
    obtain ⟨h1, h2⟩ := way_last h
    exact ⟨⟨rfl, h1⟩, h2⟩

theorem before_last (w : List Stp) (s : Stp) : beforeAll (w ++ [s]) = beforeAll w ++ s.before := by
  induction w with
  | nil => simp [beforeAll]
  | cons x w ih => simp [beforeAll, ih]

theorem behind_last (w : List Stp) (s : Stp) : behindAll (w ++ [s]) = s.behind ++ behindAll w := by
  induction w with
  | nil => simp [behindAll]
  | cons x w ih => simp [behindAll, ih]

theorem drop_pairs {t : Tr} {w : List Stp} {s : Stp} {i : Nat} {k v0 : Int} (h : Way t (w ++ [s]) (.leaf i k v0)) (ht : t.wf) (ho : On k (w ++ [s])) (fs : List Nat) : (rebuild w s.other fs).1.pairs = del t.pairs k := by
  obtain ⟨hn, hw⟩ := way_wf h ht
  rw [rebuild_pairs, way_pairs h, del_parts (fun x hx => before_lt ho hw x hx) (fun x hx => by simp [Tr.pairs] at hx; subst hx; rfl) (fun x hx => behind_lt ho hw x hx), before_last, behind_last]
  unfold Stp.other Stp.before Stp.behind
  cases s.right <;> simp

theorem other_wf {s : Stp} (h : s.whole.wf) : s.other.wf ∧ s.whole.lo ≤ s.other.lo ∧ s.other.hi ≤ s.whole.hi := by
  obtain ⟨_, _, _, _, hl, hr, a1, a2, a3, a4⟩ := h
  have := pw_pos s.p
  have := pw_succ s.p
  have h1 := Tr.wf_span hl
  have h2 := Tr.wf_span hr
  unfold Stp.other Stp.whole Tr.lo Tr.hi
  cases s.right with
  | true => exact ⟨hl, by simp; simpa [Tr.lo] using a1, by simp; simp [Tr.hi] at a2 ⊢; omega⟩
  | false => exact ⟨hr, by simp; simp [Tr.lo] at a3 ⊢; omega, by simp; simpa [Tr.hi] using a4⟩

end Go.Proofs.Ytacegkjobfeiiaa

namespace Go.Proofs.Ytacegkjobfeiiaa
open Go.RowKit

/-- The block holds int64 cells: the j-th is f j. -/
def RowI (w : World) (b N : Nat) (f : Nat → Int) (T : TypeId) : Prop :=
  ∃ c : Array Value, w.heap[b]? = some (.cells c T (0, 0)) ∧ c.size = N ∧ ∀ j, j < N → c[j]? = some (.int .i64 (f j))

def upd (f : Nat → Int) (k : Nat) (x : Int) : Nat → Int := fun j => if j = k then x else f j

theorem RowI.lt {w : World} {b N : Nat} {f : Nat → Int} {T : TypeId} (h : RowI w b N f T) : b < w.heap.size := by
  obtain ⟨c, hc, _⟩ := h
  exact (Array.getElem?_eq_some_iff.1 hc).1

theorem RowI.cell {w : World} {b N : Nat} {f : Nat → Int} {T : TypeId} (h : RowI w b N f T) {j : Nat} (hj : j < N) : w.cell? ⟨b, j, none⟩ = some (.int .i64 (f j)) := by
  obtain ⟨c, hc, _, hf⟩ := h
  simp [World.cell?, hc, hf j hj]

theorem RowI.free {w : World} {b N : Nat} {f : Nat → Int} {T : TypeId} (h : RowI w b N f T) (j : Nat) : w.frozen? ⟨b, j, none⟩ = false := by
  obtain ⟨c, hc, _⟩ := h
  simp [World.frozen?, hc]

theorem RowI.congr {w : World} {b N : Nat} {f g : Nat → Int} {T : TypeId} (h : RowI w b N f T) (e : ∀ j, j < N → f j = g j) : RowI w b N g T := by
  obtain ⟨c, hc, hs, hf⟩ := h
  exact ⟨c, hc, hs, fun j hj => by rw [hf j hj, e j hj]⟩

theorem RowI.set {w : World} {b N : Nat} {f : Nat → Int} {T : TypeId} (h : RowI w b N f T) (k : Nat) (x : Int) : RowI (w.setCell ⟨b, k, none⟩ (.int .i64 x)) b N (upd f k x) T := by
  obtain ⟨c, hc, hs, hf⟩ := h
  refine ⟨c.setIfInBounds k (.int .i64 x), ?_, by simp [hs], ?_⟩
  · simp [World.setCell, Array.getElem?_modify, hc]
  · intro j hj
    rw [Array.getElem?_setIfInBounds]
    by_cases hk : k = j
    · subst hk
      rw [if_pos rfl, if_pos (by omega)]
      simp [upd]
    · rw [if_neg hk, hf j hj]
      simp [upd, show j ≠ k by omega]

theorem RowI.only {S : List Nat} {w w' : World} {b N : Nat} {f : Nat → Int} {T : TypeId} (h : RowI w b N f T) (o : Only S w w') (hn : b ∉ S) : RowI w' b N f T := by
  have hl := h.lt
  obtain ⟨c, hc, hs, hf⟩ := h
  exact ⟨c, by rw [o.block b hl hn]; exact hc, hs, hf⟩

theorem RowI.of_blk {w : World} {b : Nat} {vs : Array Value} {T : TypeId} (h : Blk w b vs T) {N : Nat} {f : Nat → Int} (hs : vs.size = N) (hf : ∀ j, j < N → vs[j]? = some (.int .i64 (f j))) : RowI w b N f T := ⟨vs, h, hs, hf⟩

/-- A slot: its generation, its two words, its node. -/
structure Sl where
  gen : Int
  mark : Int
  link : Int
  a : Int
  b : Int
  c : Int
  d : Int

def Sl.get (s : Sl) : Nat → Int
  | 0 => s.gen
  | 1 => s.mark
  | 2 => s.link
  | 3 => s.a
  | 4 => s.b
  | 5 => s.c
  | _ => s.d

def flat (S : Nat → Sl) (j : Nat) : Int := (S (j / 7)).get (j % 7)
def upS (S : Nat → Sl) (i : Nat) (s : Sl) : Nat → Sl := fun j => if j = i then s else S j

theorem upS_same (S : Nat → Sl) (i : Nat) (s : Sl) : upS S i s i = s := by simp [upS]
theorem upS_other (S : Nat → Sl) {i j : Nat} (s : Sl) (h : j ≠ i) : upS S i s j = S j := by simp [upS, h]
theorem upS_upS (S : Nat → Sl) (i : Nat) (s s' : Sl) : upS (upS S i s) i s' = upS S i s' := by
  funext j; simp only [upS]; split <;> rfl

theorem flat_at (S : Nat → Sl) (i k : Nat) (hk : k < 7) : flat S (i * 7 + k) = (S i).get k := by
  unfold flat
  rw [show (i * 7 + k) / 7 = i by omega, show (i * 7 + k) % 7 = k by omega]

theorem flat_upd (S : Nat → Sl) (i k : Nat) (x : Int) (s : Sl) (hk : k < 7) (h0 : s.get k = x) (h1 : ∀ l, l < 7 → l ≠ k → s.get l = (S i).get l) (j : Nat) : upd (flat S) (i * 7 + k) x j = flat (upS S i s) j := by
  unfold upd flat upS
  by_cases hj : j = i * 7 + k
  · subst hj
    rw [if_pos rfl, if_pos (by omega), show (i * 7 + k) % 7 = k by omega, h0]
  · rw [if_neg hj]
    by_cases hi : j / 7 = i
    · rw [if_pos hi, hi]
      exact (h1 (j % 7) (by omega) (by omega)).symm
    · rw [if_neg hi]

theorem RowI.slot {w : World} {b N : Nat} {S : Nat → Sl} {T : TypeId} (h : RowI w b N (flat S) T) (i k : Nat) (hk : k < 7) (hN : i * 7 + 7 ≤ N) : w.cell? ⟨b, i * 7 + k, none⟩ = some (.int .i64 ((S i).get k)) := by
  rw [h.cell (show i * 7 + k < N by omega), flat_at S i k hk]

theorem RowI.put {w w1 : World} {b N : Nat} {S : Nat → Sl} {T : TypeId} (h : RowI w b N (flat S) T) (i k : Nat) (x : Int) (s : Sl) (hk : k < 7) (h0 : s.get k = x) (h1 : ∀ l, l < 7 → l ≠ k → s.get l = (S i).get l) (hw : w.setCell ⟨b, i * 7 + k, none⟩ (.int .i64 x) = w1) :
    RowI w1 b N (flat (upS S i s)) T := by
  subst hw
  exact (h.set (i * 7 + k) x).congr fun j _ => flat_upd S i k x s hk h0 h1 j

end Go.Proofs.Ytacegkjobfeiiaa

namespace Go.Proofs.Ytacegkjobfeiiaa
open Tr

/-- The place of a key in a row, or of the first above it. -/
def whr : List KV → Int → Nat
  | [], _ => 0
  | x :: l, k => if x.1 < k then whr l k + 1 else 0

/-- Is it there? -/
def isAt : List KV → Int → Bool
  | [], _ => false
  | x :: l, k => if x.1 < k then isAt l k else x.1 == k

theorem whr_le : ∀ (l : List KV) (k : Int), whr l k ≤ l.length
  | [], _ => Nat.le_refl _
  | x :: l, k => by
    unfold whr
    have := whr_le l k
    split <;> simp <;> omega

theorem isAt_lt : ∀ (l : List KV) (k : Int), isAt l k = true → whr l k + 1 ≤ l.length
  | [], _, h => by simp [isAt] at h
  | x :: l, k, h => by
    unfold isAt at h
    unfold whr
    split at h
    · rename_i hx
      have := isAt_lt l k h
      rw [if_pos hx]; simp; omega
    · rename_i hx
      rw [if_neg hx]; simp

theorem whr_step : ∀ (l : List KV) (k : Int) (i : Nat) (x : KV), i ≤ whr l k → l[i]? = some x → (x.1 < k ↔ i < whr l k)
  | [], _, i, x, _, hx => by simp at hx
  | a :: l, k, 0, x, _, hx => by
    simp at hx
    subst hx
    unfold whr
    split <;> simp_all
  | a :: l, k, i + 1, x, hi, hx => by
    simp at hx
    unfold whr at hi ⊢
    split at hi
    · rename_i ha
      rw [if_pos ha]
      have := whr_step l k i x (by omega) hx
      omega
    · omega

theorem isAt_get : ∀ (l : List KV) (k : Int), isAt l k = (match l[whr l k]? with | some x => x.1 == k | none => false)
  | [], k => rfl
  | a :: l, k => by
    unfold isAt whr
    split
    · rw [List.getElem?_cons_succ]; exact isAt_get l k
    · rfl

/-- With a key's value, without a key. -/
def withL (l : List KV) (k v : Int) : List KV := l.take (whr l k) ++ (k, v) :: l.drop (whr l k + if isAt l k then 1 else 0)
def lessL (l : List KV) (k : Int) : List KV := l.take (whr l k) ++ l.drop (whr l k + if isAt l k then 1 else 0)

theorem filter_lt_tail {a : KV} {l : List KV} {k : Int} (h : ∀ b, b ∈ l → a.1 < b.1) (hk : k ≤ a.1) : l.filter (fun x => decide (x.1 < k)) = [] := filter_none fun x hx => by have := h x hx; simp; omega
theorem filter_gt_tail {a : KV} {l : List KV} {k : Int} (h : ∀ b, b ∈ l → a.1 < b.1) (hk : k ≤ a.1) : l.filter (fun x => decide (k < x.1)) = l := filter_all fun x hx => by have := h x hx; simp; omega

theorem withL_ins : ∀ {l : List KV}, rising l → ∀ (k v : Int), withL l k v = ins l k v
  | [], _, k, v => rfl
  | a :: l, h, k, v => by
    obtain ⟨h1, h2⟩ := h
    have ih := withL_ins h2 k v
    unfold withL ins at ih ⊢
    unfold whr isAt
    by_cases ha : a.1 < k
    · have hn : ¬ k < a.1 := by omega
      simp only [ha, if_true, List.take_succ_cons, List.cons_append, List.filter_cons, decide_true, hn, decide_false, Bool.false_eq_true, if_false]
      rw [← ih]
      congr 3
      rw [show whr l k + 1 + (if isAt l k = true then 1 else 0) = (whr l k + if isAt l k = true then 1 else 0) + 1 by omega, List.drop_succ_cons]
    · simp only [ha, if_false, List.filter_cons, decide_false, Bool.false_eq_true, List.take_zero, List.nil_append, Nat.zero_add]
      rw [filter_lt_tail h1 (by omega), filter_gt_tail h1 (by omega)]
      by_cases he : a.1 = k
      · rw [he]; simp
      · have : k < a.1 := by omega
        have hb : (a.1 == k) = false := by simp [he]
        simp [hb, this]

theorem lessL_del : ∀ {l : List KV}, rising l → ∀ (k : Int), lessL l k = del l k
  | [], _, k => rfl
  | a :: l, h, k => by
    obtain ⟨h1, h2⟩ := h
    have ih := lessL_del h2 k
    unfold lessL del at ih ⊢
    unfold whr isAt
    by_cases ha : a.1 < k
    · have hn : a.1 ≠ k := by omega
      simp only [ha, if_true, List.take_succ_cons, List.cons_append, List.filter_cons, ne_eq, hn, not_false_eq_true, decide_true]
      simp only [ne_eq] at ih
      rw [← ih]
      congr 2
      rw [show whr l k + 1 + (if isAt l k = true then 1 else 0) = (whr l k + if isAt l k = true then 1 else 0) + 1 by omega, List.drop_succ_cons]
    · simp only [ha, if_false, List.take_zero, List.nil_append, Nat.zero_add, List.filter_cons]
      have ht : l.filter (fun x => decide (x.1 ≠ k)) = l := filter_all fun x hx => by have := h1 x hx; simp; omega
      rw [ht]
      by_cases he : a.1 = k
      · simp [he]
      · have hb : (a.1 == k) = false := by simp [he]
        simp [hb, he]

/-- The value at a key, as the statement's own function tells it. -/
def valL (l : List KV) (k : Int) : Int × Bool := match l[whr l k]? with
  | some x => if x.1 = k then (x.2, true) else (0, false)
  | none => (0, false)

theorem valL_has (l : List KV) (k : Int) : (valL l k).2 = isAt l k := by
  rw [isAt_get]
  unfold valL
  cases l[whr l k]? with
  | none => rfl
  | some x => by_cases h : x.1 = k <;> simp [h]

theorem valL_val : ∀ {l : List KV}, rising l → ∀ (k : Int), valL l k = match val l k with | some v => (v, true) | none => (0, false)
  | [], _, k => rfl
  | a :: l, h, k => by
    obtain ⟨h1, h2⟩ := h
    have ih := valL_val h2 k
    unfold valL val at ih ⊢
    unfold whr
    by_cases ha : a.1 < k
    · have hb : (a.1 == k) = false := by simp; omega
      rw [if_pos ha, List.getElem?_cons_succ, ih, List.find?_cons, hb]
    · rw [if_neg ha, List.getElem?_cons_zero, List.find?_cons]
      by_cases he : a.1 = k
      · simp [he]
      · have hb : (a.1 == k) = false := by simp [he]
        have hn : l.find? (fun x => x.1 == k) = none := List.find?_eq_none.2 fun x hx => by have := h1 x hx; simp; omega
        simp [he, hb, hn]

/-- A key's value by a way. -/
theorem find_eq {t n : Tr} {w : List Stp} {k : Int} (h : Way t w n) (ht : t.wf) (ho : On k w) (he : Ends k n) : val t.pairs k = (match n with | .leaf _ a v => if a = k then some v else none | .node _ _ _ _ _ => none) := by
  obtain ⟨hn, hw⟩ := way_wf h ht
  unfold val
  rw [way_pairs h, List.append_assoc, find_none_app (fun x hx => by have := before_lt ho hw x hx; simp; omega), List.find?_append]
  have hb : (behindAll w).find? (fun x => x.1 == k) = none := List.find?_eq_none.2 fun x hx => by have := behind_lt ho hw x hx; simp; omega
  rw [hb]
  cases n with
  | leaf i a v =>
    by_cases h : a = k
    · simp [Tr.pairs, h]
    · have hb : (a == k) = false := by simp [h]
      simp [Tr.pairs, h, hb]
  | node i p f l r =>
    have hq : (Tr.node i p f l r).pairs.find? (fun x => x.1 == k) = none := List.find?_eq_none.2 fun x hx => by
      have := Tr.wf_keys hn x hx
      rcases he with ⟨_, _, _, he⟩ | he
      · cases he
      · simp; omega
    rw [hq]; rfl

theorem rising_lt : ∀ {l : List KV} {i j : Nat} {x y : KV}, rising l → l[i]? = some x → l[j]? = some y → i < j → x.1 < y.1
  | [], i, j, x, y, _, hx, _, _ => by simp at hx
  | a :: l, 0, j + 1, x, y, h, hx, hy, _ => by
    simp at hx hy
    subst hx
    exact h.1 y (List.mem_of_getElem? hy)
  | a :: l, i + 1, j + 1, x, y, h, hx, hy, hij => by
    simp at hx hy
    exact rising_lt h.2 hx hy (by omega)

theorem rising_rank : ∀ {l : List KV} {i : Nat} {x : KV}, rising l → l[i]? = some x → (l.filter fun y => decide (y.1 < x.1)).length = i
  | [], i, x, _, hx => by simp at hx
  | a :: l, 0, x, h, hx => by
    simp at hx
    subst hx
    rw [List.filter_cons, filter_lt_tail h.1 (Int.le_refl _)]; simp
  | a :: l, i + 1, x, h, hx => by
    simp at hx
    have h1 := h.1 x (List.mem_of_getElem? hx)
    rw [List.filter_cons, show decide (a.1 < x.1) = true by simpa using h1]
    simp [rising_rank h.2 hx]

theorem rising_next : ∀ {l : List KV} {i : Nat} {x : KV}, rising l → l[i]? = some x → l.find? (fun y => decide (x.1 + 1 ≤ y.1)) = l[i + 1]?
  | [], i, x, _, hx => by simp at hx
  | a :: l, 0, x, h, hx => by
    simp at hx
    subst hx
    rw [List.find?_cons, show decide (a.1 + 1 ≤ a.1) = false by simp; omega]
    cases l with
    | nil => rfl
    | cons b l =>
      have := h.1 b (by simp)
      rw [List.find?_cons, show decide (a.1 + 1 ≤ b.1) = true by simp; omega]; rfl
  | a :: l, i + 1, x, h, hx => by
    simp at hx
    have h1 := h.1 x (List.mem_of_getElem? hx)
    rw [List.find?_cons, show decide (x.1 + 1 ≤ a.1) = false by simp; omega]
    simpa using rising_next h.2 hx

theorem rising_val : ∀ {l : List KV} {i : Nat} {x : KV}, rising l → l[i]? = some x → val l x.1 = some x.2
  | [], i, x, _, hx => by simp at hx
  | a :: l, 0, x, h, hx => by
    simp at hx
    subst hx
    simp [val]
  | a :: l, i + 1, x, h, hx => by
    simp at hx
    have h1 := h.1 x (List.mem_of_getElem? hx)
    have hb : (a.1 == x.1) = false := by simp; omega
    have := rising_val h.2 hx
    unfold val at this ⊢
    rw [List.find?_cons, hb]
    exact this

/-! The slots of a tree, of a way, of what is made anew. -/

def othersOf : List Stp → List Nat
  | [] => []
  | s :: w => s.other.slots ++ othersOf w

theorem way_slots : ∀ {w : List Stp} {t n : Tr}, Way t w n → t.slots.Perm (w.map (·.i) ++ (othersOf w ++ n.slots))
  | [], t, n, h => by
    have h : t = n := h
    subst h; exact List.Perm.refl _
  | s :: w, t, n, h => by
    obtain ⟨rfl, h⟩ := h
    have ih := way_slots h
    have e : s.whole.slots.Perm (s.i :: (s.other.slots ++ s.into.slots)) := by
      unfold Stp.whole Stp.other Stp.into
      cases s.right with
      | true => exact List.Perm.refl _
      | false => exact List.Perm.cons _ (List.perm_append_comm)
    refine e.trans (List.Perm.cons _ ?_)
    have key : (s.other.slots ++ (w.map (·.i) ++ (othersOf w ++ n.slots))).Perm (w.map (·.i) ++ ((s.other.slots ++ othersOf w) ++ n.slots)) := (List.perm_append_comm_assoc _ _ _).trans (by rw [List.append_assoc])
    exact (List.Perm.append_left _ ih).trans key

theorem rebuild_slots : ∀ {w : List Stp} {t : Tr} {fs : List Nat}, w.length ≤ fs.length → (rebuild w t fs).1.slots.Perm ((fs.take w.length) ++ (othersOf w ++ t.slots))
  | [], t, fs, _ => by simp [rebuild, othersOf]
  | s :: w, t, fs, hl => by
    have ih := rebuild_slots (w := w) (t := t) (fs := fs) (by simp at hl; omega)
    simp only [List.length_cons] at hl
    have hj : fs.take (w.length + 1) = fs.take w.length ++ [(fs.drop w.length).headD 0] := by
      rw [List.take_add_one]
      congr 1
      have : fs[w.length]? = some fs[w.length] := List.getElem?_eq_getElem hl
      rw [this, List.drop_eq_getElem_cons hl]; rfl
    have e : (rebuild (s :: w) t fs).1.slots.Perm (((rebuild w t fs).2.headD 0) :: (s.other.slots ++ (rebuild w t fs).1.slots)) := by
      simp only [rebuild]
      unfold Stp.anew Stp.other
      cases s.right with
      | true => exact List.Perm.refl _
      | false => exact List.Perm.cons _ (List.perm_append_comm)
    refine e.trans ?_
    rw [List.length_cons, hj, rebuild_fs]
    generalize (fs.drop w.length).headD 0 = j
    generalize (rebuild w t fs).1.slots = X at *
    generalize fs.take w.length = F at *
    simp only [othersOf]
    have h1 : (j :: (s.other.slots ++ X)).Perm (j :: (s.other.slots ++ (F ++ (othersOf w ++ t.slots)))) := List.Perm.cons _ (List.Perm.append_left _ ih)
    refine h1.trans ?_
    have h2 : (s.other.slots ++ (F ++ (othersOf w ++ t.slots))).Perm (F ++ (s.other.slots ++ (othersOf w ++ t.slots))) := List.perm_append_comm_assoc _ _ _
    refine (List.Perm.cons _ h2).trans ?_
    have h3 : (j :: (F ++ (s.other.slots ++ (othersOf w ++ t.slots)))).Perm (F ++ j :: (s.other.slots ++ (othersOf w ++ t.slots))) := (List.perm_middle).symm
    refine h3.trans ?_
    simp

theorem fork_slots (j p : Nat) (f k v : Int) (i : Nat) (n : Tr) : (fork j p f k (.leaf i k v) n).slots.Perm (j :: i :: n.slots) := by
  unfold fork
  split
  · exact List.Perm.refl _
  · simp only [Tr.slots]
    exact List.Perm.cons _ (List.perm_append_singleton _ _)

end Go.Proofs.Ytacegkjobfeiiaa

namespace Go.Proofs.Ytacegkjobfeiiaa
open Tr

namespace Ch2
def old : Ch2 → Int
  | del _ v => v
  | add _ _ => 0
  | chg _ v _ => v
def new : Ch2 → Int
  | del _ _ => 0
  | add _ v => v
  | chg _ _ u => u
def had : Ch2 → Bool
  | add _ _ => false
  | _ => true
def has : Ch2 → Bool
  | del _ _ => false
  | _ => true
end Ch2

theorem val_in {a c : List KV} {k v : Int} (ha : ∀ x, x ∈ a → x.1 < k) : val (a ++ (k, v) :: c) k = some v := by
  unfold val
  rw [find_none_app (fun x hx => by have := ha x hx; simp; omega)]
  simp

theorem val_out {a c : List KV} {k : Int} (ha : ∀ x, x ∈ a → x.1 < k) (hc : ∀ x, x ∈ c → k < x.1) : val (a ++ c) k = none := by
  unfold val
  rw [find_none_app (fun x hx => by have := ha x hx; simp; omega)]
  have : c.find? (fun x => x.1 == k) = none := List.find?_eq_none.2 fun x hx => by have := hc x hx; simp; omega
  rw [this]; rfl

/-- The first row has been made like the second up to a place; what is left is told, each key above the last. -/
def Patch (last : Int) (cur ys : List KV) (rest : List Ch2) : Prop :=
  ∃ p a b, cur = p ++ a ∧ ys = p ++ b ∧ rest = md a b ∧ rising cur ∧ rising ys ∧ (∀ x, x ∈ a → last < x.1) ∧ (∀ x, x ∈ b → last < x.1)

theorem patch_start {xs ys : List KV} (hx : rising xs) (hy : rising ys) (h1 : ∀ x, x ∈ xs → 0 ≤ x.1) (h2 : ∀ x, x ∈ ys → 0 ≤ x.1) : Patch (-1) xs ys (md xs ys) :=
  ⟨[], xs, ys, rfl, rfl, rfl, hx, hy, fun x h => by have := h1 x h; omega, fun x h => by have := h2 x h; omega⟩

theorem md_eq_nil : ∀ {a b : List KV}, md a b = [] → a = b
  | [], [], _ => rfl
  | [], y :: b, h => by rw [md_nil_left] at h; simp at h
  | x :: a, [], h => by rw [md_nil_right] at h; simp at h
  | x :: a, y :: b, h => by
    rw [md] at h
    split at h
    · cases h
    · split at h
      · cases h
      · split at h
        · rename_i h1 h2 h3
          have := md_eq_nil h
          rw [this]
          congr 1
          exact Prod.ext (by omega) h3
        · cases h

theorem patch_end {last : Int} {cur ys : List KV} (h : Patch last cur ys []) : cur = ys := by
  obtain ⟨p, a, b, rfl, rfl, hr, _⟩ := h
  rw [md_eq_nil hr.symm]

/-- Where the first difference stands. -/
theorem patch_head : ∀ (n : Nat) {last : Int} {cur ys : List KV} {c : Ch2} {rest : List Ch2} {p a b : List KV}, a.length + b.length ≤ n → cur = p ++ a → ys = p ++ b → c :: rest = md a b → (∀ x, x ∈ a → last < x.1) → (∀ x, x ∈ b → last < x.1) →
    ∃ p' a' b', cur = p' ++ a' ∧ ys = p' ++ b' ∧ (∀ x, x ∈ a' → last < x.1) ∧ (∀ x, x ∈ b' → last < x.1) ∧
      ((∃ k v r, c = .del k v ∧ a' = (k, v) :: r ∧ rest = md r b' ∧ (b' = [] ∨ ∃ y t, b' = y :: t ∧ k < y.1)) ∨
       (∃ k v r, c = .add k v ∧ b' = (k, v) :: r ∧ rest = md a' r ∧ (a' = [] ∨ ∃ y t, a' = y :: t ∧ k < y.1)) ∨
       (∃ k v u r s, c = .chg k v u ∧ a' = (k, v) :: r ∧ b' = (k, u) :: s ∧ rest = md r s ∧ v ≠ u))
  | n, last, cur, ys, c, rest, p, [], [], hn, h1, h2, h3, l1, l2 => by simp [md] at h3
  | n, last, cur, ys, c, rest, p, [], (k, v) :: b, hn, h1, h2, h3, l1, l2 => by
    rw [md_nil_left] at h3
    simp at h3
    exact ⟨p, [], (k, v) :: b, h1, h2, l1, l2, Or.inr (Or.inl ⟨k, v, b, h3.1, rfl, by rw [md_nil_left]; exact h3.2, Or.inl rfl⟩)⟩
  | n, last, cur, ys, c, rest, p, (k, v) :: a, [], hn, h1, h2, h3, l1, l2 => by
    rw [md_nil_right] at h3
    simp at h3
    exact ⟨p, (k, v) :: a, [], h1, h2, l1, l2, Or.inl ⟨k, v, a, h3.1, rfl, by rw [md_nil_right]; exact h3.2, Or.inl rfl⟩⟩
  | 0, last, cur, ys, c, rest, p, x :: a, y :: b, hn, h1, h2, h3, l1, l2 => by simp at hn
  | n + 1, last, cur, ys, c, rest, p, (k, v) :: a, (j, u) :: b, hn, h1, h2, h3, l1, l2 => by
    rw [md] at h3
    split at h3
    · rename_i hlt
      injection h3 with e1 e2
      exact ⟨p, (k, v) :: a, (j, u) :: b, h1, h2, l1, l2, Or.inl ⟨k, v, a, e1, rfl, e2, Or.inr ⟨_, _, rfl, hlt⟩⟩⟩
    · split at h3
      · rename_i hlt
        injection h3 with e1 e2
        exact ⟨p, (k, v) :: a, (j, u) :: b, h1, h2, l1, l2, Or.inr (Or.inl ⟨j, u, b, e1, rfl, e2, Or.inr ⟨_, _, rfl, hlt⟩⟩)⟩
      · rename_i n1 n2
        have hk : k = j := by simp only at n1 n2; omega
        subst hk
        split at h3
        · rename_i hv
          have hv : v = u := hv
          subst hv
          simp only [List.length_cons] at hn
          exact patch_head n (p := p ++ [(k, v)]) (a := a) (b := b) (by omega) (by rw [h1]; simp) (by rw [h2]; simp) h3 (fun x hx => l1 x (by simp [hx])) (fun x hx => l2 x (by simp [hx]))
        · rename_i hv
          injection h3 with e1 e2
          exact ⟨p, (k, v) :: a, (k, u) :: b, h1, h2, l1, l2, Or.inr (Or.inr ⟨k, v, u, a, b, e1, rfl, rfl, e2, hv⟩)⟩

theorem rising_mid {p : List KV} {x : KV} {r : List KV} (h : rising (p ++ x :: r)) : (∀ y, y ∈ p → y.1 < x.1) ∧ (∀ y, y ∈ r → x.1 < y.1) ∧ rising (p ++ r) := by
  obtain ⟨h1, h2, h3⟩ := rising_append.1 h
  exact ⟨fun y hy => h3 y hy x (by simp), h2.1, rising_append.2 ⟨h1, h2.2, fun y hy z hz => h3 y hy z (by simp [hz])⟩⟩

theorem valL_eq {l : List KV} (h : rising l) {k v : Int} (hv : val l k = some v) : valL l k = (v, true) := by rw [valL_val h, hv]
theorem valL_no {l : List KV} (h : rising l) {k : Int} (hv : val l k = none) : valL l k = (0, false) := by rw [valL_val h, hv]

/-- What is laid on for one difference. -/
def laid (cur : List KV) (c : Ch2) : List KV := if c.has then withL (lessL cur c.key) c.key c.new else lessL cur c.key

theorem patch_step {last : Int} {cur ys : List KV} {c : Ch2} {rest : List Ch2} (h : Patch last cur ys (c :: rest)) :
    last < c.key ∧ valL cur c.key = (c.old, c.had) ∧ valL ys c.key = (c.new, c.has) ∧ ¬ (c.had = c.has ∧ c.old = c.new) ∧ Patch c.key (laid cur c) ys rest ∧ rising (lessL cur c.key) := by
  obtain ⟨p0, a0, b0, h1, h2, h3, rc, ry, l1, l2⟩ := h
  obtain ⟨p, a, b, e1, e2, m1, m2, hc⟩ := patch_head _ (Nat.le_refl _) h1 h2 h3 l1 l2
  clear h1 h2 h3 l1 l2 p0 a0 b0
  rcases hc with ⟨k, v, r, rfl, rfl, rfl, hb⟩ | ⟨k, v, r, rfl, rfl, rfl, ha⟩ | ⟨k, v, u, r, s, rfl, rfl, rfl, rfl, hne⟩
  · subst e1
    obtain ⟨c1, c2, c3⟩ := rising_mid rc
    have hlb : ∀ y, y ∈ b → k < y.1 := by
      intro y hy
      rcases hb with rfl | ⟨z, t, rfl, hz⟩
      · simp at hy
      · rw [e2] at ry
        have := (rising_append.1 ry).2.1
        rcases List.mem_cons.1 hy with rfl | hy
        · exact hz
        · have := this.1 y hy; omega
    have hd : del (p ++ (k, v) :: r) k = p ++ r := by
      have := del_parts (a := p) (b := [(k, v)]) (c := r) (k := k) c1 (by simp) c2
      simpa using this
    have hl : lessL (p ++ (k, v) :: r) k = p ++ r := by rw [lessL_del rc, hd]
    refine ⟨m1 (k, v) (by simp), valL_eq rc (val_in c1), valL_no ry ?_, by simp [Ch2.had, Ch2.has], ?_, by show rising (lessL _ k); rw [hl]; exact c3⟩
    · rw [e2]; exact val_out c1 hlb
    · show Patch k (lessL (p ++ (k, v) :: r) k) ys _
      rw [hl]
      exact ⟨p, r, b, rfl, e2, rfl, c3, ry, c2, hlb⟩
  · subst e2
    obtain ⟨c1, c2, c3⟩ := rising_mid ry
    have hla : ∀ y, y ∈ a → k < y.1 := by
      intro y hy
      rcases ha with rfl | ⟨z, t, rfl, hz⟩
      · simp at hy
      · rw [e1] at rc
        have := (rising_append.1 rc).2.1
        rcases List.mem_cons.1 hy with rfl | hy
        · exact hz
        · have := this.1 y hy; omega
    have hd : del (p ++ a) k = p ++ a := by
      have := del_parts (a := p) (b := []) (c := a) (k := k) c1 (by simp) hla
      simpa using this
    have rc' := rc
    rw [e1] at rc
    have hl : lessL (p ++ a) k = p ++ a := by rw [lessL_del rc, hd]
    have hw : withL (p ++ a) k v = p ++ (k, v) :: a := by
      rw [withL_ins rc]
      have := ins_parts (a := p) (b := []) (c := a) (k := k) (v := v) c1 (by simp) hla
      simpa using this
    have rn : rising (p ++ (k, v) :: a) := by
      obtain ⟨q1, q2, q3⟩ := rising_append.1 rc
      refine rising_append.2 ⟨q1, ⟨hla, q2⟩, fun x hx y hy => ?_⟩
      rcases List.mem_cons.1 hy with rfl | hy
      · exact c1 x hx
      · exact q3 x hx y hy
    refine ⟨m2 (k, v) (by simp), valL_no rc' ?_, valL_eq ry (val_in c1), by simp [Ch2.had, Ch2.has], ?_, by show rising (lessL _ k); rw [e1, hl]; exact rc⟩
    · rw [e1]; exact val_out c1 hla
    · show Patch k (withL (lessL cur k) k v) _ _
      rw [e1, hl, hw]
      exact ⟨p ++ [(k, v)], a, r, by simp, by simp, rfl, rn, ry, hla, c2⟩
  · subst e1
    subst e2
    obtain ⟨c1, c2, c3⟩ := rising_mid rc
    obtain ⟨d1, d2, d3⟩ := rising_mid ry
    have hd : del (p ++ (k, v) :: r) k = p ++ r := by
      have := del_parts (a := p) (b := [(k, v)]) (c := r) (k := k) c1 (by simp) c2
      simpa using this
    have hl : lessL (p ++ (k, v) :: r) k = p ++ r := by rw [lessL_del rc, hd]
    have hw : withL (p ++ r) k u = p ++ (k, u) :: r := by
      rw [withL_ins c3]
      have := ins_parts (a := p) (b := []) (c := r) (k := k) (v := u) c1 (by simp) c2
      simpa using this
    have rn : rising (p ++ (k, u) :: r) := by
      obtain ⟨q1, q2, q3⟩ := rising_append.1 c3
      refine rising_append.2 ⟨q1, ⟨c2, q2⟩, fun x hx y hy => ?_⟩
      rcases List.mem_cons.1 hy with rfl | hy
      · exact c1 x hx
      · exact q3 x hx y hy
    refine ⟨m1 (k, v) (by simp), valL_eq rc (val_in c1), valL_eq ry (val_in d1), ?_, ?_, by show rising (lessL _ k); rw [hl]; exact c3⟩
    · rintro ⟨_, h⟩; exact hne h
    · show Patch k (withL (lessL (p ++ (k, v) :: r) k) k u) _ _
      rw [hl, hw]
      exact ⟨p ++ [(k, u)], r, s, by simp, by simp, rfl, rn, ry, c2, d2⟩

end Go.Proofs.Ytacegkjobfeiiaa

namespace Go.Proofs.Ytacegkjobfeiiaa
open Go.RowKit

/-- The block's cells: the j-th is f j. -/
def RowV (w : World) (b N : Nat) (f : Nat → Value) (T : TypeId) : Prop :=
  ∃ c : Array Value, w.heap[b]? = some (.cells c T (0, 0)) ∧ c.size = N ∧ ∀ j, j < N → c[j]? = some (f j)

def updV (f : Nat → Value) (k : Nat) (x : Value) : Nat → Value := fun j => if j = k then x else f j

theorem RowV.lt {w : World} {b N : Nat} {f : Nat → Value} {T : TypeId} (h : RowV w b N f T) : b < w.heap.size := by
  obtain ⟨c, hc, _⟩ := h
  exact (Array.getElem?_eq_some_iff.1 hc).1

theorem RowV.cell {w : World} {b N : Nat} {f : Nat → Value} {T : TypeId} (h : RowV w b N f T) {j : Nat} (hj : j < N) : w.cell? ⟨b, j, none⟩ = some (f j) := by
  obtain ⟨c, hc, _, hf⟩ := h
  simp [World.cell?, hc, hf j hj]

theorem RowV.free {w : World} {b N : Nat} {f : Nat → Value} {T : TypeId} (h : RowV w b N f T) (j : Nat) : w.frozen? ⟨b, j, none⟩ = false := by
  obtain ⟨c, hc, _⟩ := h
  simp [World.frozen?, hc]

theorem RowV.congr {w : World} {b N : Nat} {f g : Nat → Value} {T : TypeId} (h : RowV w b N f T) (e : ∀ j, j < N → f j = g j) : RowV w b N g T := by
  obtain ⟨c, hc, hs, hf⟩ := h
  exact ⟨c, hc, hs, fun j hj => by rw [hf j hj, e j hj]⟩

theorem RowV.set {w : World} {b N : Nat} {f : Nat → Value} {T : TypeId} (h : RowV w b N f T) (k : Nat) (x : Value) : RowV (w.setCell ⟨b, k, none⟩ x) b N (updV f k x) T := by
  obtain ⟨c, hc, hs, hf⟩ := h
  refine ⟨c.setIfInBounds k x, ?_, by simp [hs], ?_⟩
  · simp [World.setCell, Array.getElem?_modify, hc]
  · intro j hj
    rw [Array.getElem?_setIfInBounds]
    by_cases hk : k = j
    · subst hk
      rw [if_pos rfl, if_pos (by omega)]
      simp [updV]
    · rw [if_neg hk, hf j hj]
      simp [updV, show j ≠ k by omega]

theorem RowV.only {S : List Nat} {w w' : World} {b N : Nat} {f : Nat → Value} {T : TypeId} (h : RowV w b N f T) (o : Only S w w') (hn : b ∉ S) : RowV w' b N f T := by
  have hl := h.lt
  obtain ⟨c, hc, hs, hf⟩ := h
  exact ⟨c, by rw [o.block b hl hn]; exact hc, hs, hf⟩

theorem RowV.of_blk {w : World} {b : Nat} {vs : Array Value} {T : TypeId} (h : Blk w b vs T) {N : Nat} {f : Nat → Value} (hs : vs.size = N) (hf : ∀ j, j < N → vs[j]? = some (f j)) : RowV w b N f T := ⟨vs, h, hs, hf⟩

/-- The slice value reads as the list, wherever its cells lie. -/
def Reads (w : World) (v : Value) (xs : List Int) : Prop :=
  ∃ ad cap, v = .slice ad xs.length cap ∧ (xs = [] ∨ ∃ b o, ad = some ⟨b, o, none⟩ ∧ b < w.heap.size ∧ ∀ i, i < xs.length → w.cell? ⟨b, o + i, none⟩ = some (.int .i64 (xs.getD i 0)))

def blockOf : Value → List Nat
  | .slice (some a) _ _ => [a.block]
  | _ => []

theorem Reads.only {S : List Nat} {w w' : World} {v : Value} {xs : List Int} (h : Reads w v xs) (o : Only S w w') (hn : ∀ k, k ∈ blockOf v → k ∉ S) : Reads w' v xs := by
  obtain ⟨ad, cap, rfl, h⟩ := h
  refine ⟨ad, cap, rfl, ?_⟩
  rcases h with h | ⟨b, o', rfl, hb, hc⟩
  · exact .inl h
  · exact .inr ⟨b, o', rfl, Nat.lt_of_lt_of_le hb o.size, fun i hi => (o.cell (p := ⟨b, o' + i, none⟩) hb (hn b (by simp [blockOf]))).trans (hc i hi)⟩

theorem Reads.nil (w : World) : Reads w (.slice none 0 0) [] := ⟨none, 0, rfl, .inl rfl⟩

theorem Reads.of_own {w : World} {base n : Nat} {e : TypeId} {v : Value} {xs : List Int} (h : w.ownsRow base e 1 v n (xs.map (Value.int .i64))) : Reads w v xs := by
  have hl : xs.length = n := by simpa using h.1
  rcases h.2 with ⟨hv, h0⟩ | ⟨g, cap, cur, hv, hg, hb, hnc, hm, hs, ht⟩
  · subst hv
    have : xs = [] := List.eq_nil_of_length_eq_zero (by omega)
    subst this
    exact Reads.nil w
  · subst hv
    refine ⟨_, cap, by rw [hl], .inr ⟨g, 0, rfl, (Array.getElem?_eq_some_iff.1 hb).1, ?_⟩⟩
    intro i hi
    have hx : (xs.map (Value.int .i64))[i]? = some (.int .i64 (xs.getD i 0)) := by
      simp [List.getElem?_eq_getElem hi, List.getD]
    have := h.cells (g := g) rfl i _ hx
    rw [Addr.add_lit] at this
    exact this

theorem own_lt {w : World} {base n size : Nat} {e : TypeId} {v : Value} {xs : List Value} (h : w.ownsRow base e size v n xs) : ∀ k, k ∈ blockOf v → base ≤ k ∧ k < w.heap.size := by
  intro k hk
  refine h.lt k ?_
  rcases h.2 with ⟨hv, _⟩ | ⟨g, cap, cur, hv, _⟩
  · subst hv; simp [blockOf] at hk
  · subst hv; simp [blockOf] at hk; simp [Value.ownBlock, hk]

end Go.Proofs.Ytacegkjobfeiiaa

