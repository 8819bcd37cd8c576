/- A chain in memory: its block, its row of sets; the versions as a list of slots. Laws only: no program steps. -/
import Derived.Test.YteeibhjmjejplaaPoolE
import Derived.Test.YteeibhjmjejplaaVals
import Derived.Test.YteeibhjmjejplaaSlots
import Derived.Test.YteeibhjmjejplaaClkA
namespace Go.Proofs.Yteeibhjmjejplaa
open Go.RowKit

/-- What is kept beside a version: its handle; its set as a slice value and as a list. -/
structure Ent where
  h : Int
  v : Value
  l : List Int

/-- A chain's two blocks. -/
structure CA where
  x : Nat
  sb : Nat

def CA.all (X : CA) : List Nat := [X.x, X.sb]

def entCell (Z : Nat → Ent) (j : Nat) : Value := if j % 2 = 0 then .int .i64 (Z (j / 2)).h else (Z (j / 2)).v

theorem entCell_h (Z : Nat → Ent) (i : Nat) : entCell Z (i * 2) = .int .i64 (Z i).h := by
  unfold entCell
  rw [if_pos (by omega), show i * 2 / 2 = i from by omega]
theorem entCell_v (Z : Nat → Ent) (i : Nat) : entCell Z (i * 2 + 1) = (Z i).v := by
  unfold entCell
  rw [if_neg (by omega), show (i * 2 + 1) / 2 = i from by omega]

def upE (Z : Nat → Ent) (i : Nat) (e : Ent) : Nat → Ent := fun j => if j = i then e else Z j
theorem upE_same (Z : Nat → Ent) (i : Nat) (e : Ent) : upE Z i e i = e := by simp [upE]
theorem upE_other (Z : Nat → Ent) {i j : Nat} (e : Ent) (h : j ≠ i) : upE Z i e j = Z j := by simp [upE, h]

/-- The chain's own blocks, over a pool and a clock. -/
structure ChainAt (w : World) (X : CA) (A : PA) (cb n : Nat) (hd : Int) (Z : Nat → Ent) : Prop where
  head : Blk w X.x #[.pointer (some ⟨A.p, 0, none⟩), .pointer (some ⟨cb, 0, none⟩), .int .i64 hd, .slice (some ⟨X.sb, 0, none⟩) (n + 1) (n + 1)] 81
  row : RowV w X.sb ((n + 1) * 2) (entCell Z) 86
  apart : X.x ≠ X.sb

/-- Pool, chain and clock lie apart. -/
structure Sep (A : PA) (X : CA) (cb cq : Nat) : Prop where
  pool : ∀ k, k ∈ A.all → k ∉ X.all ∧ k ≠ cb ∧ k ≠ cq
  chain : ∀ k, k ∈ X.all → k ≠ cb ∧ k ≠ cq

theorem ChainAt.only {T : List Nat} {w w' : World} {X : CA} {A : PA} {cb n : Nat} {hd : Int} {Z : Nat → Ent} (h : ChainAt w X A cb n hd Z) (o : Only T w w') (hn : ∀ k, k ∈ X.all → k ∉ T) : ChainAt w' X A cb n hd Z :=
  ⟨h.head.only o (hn _ (by simp [CA.all])), h.row.only o (hn _ (by simp [CA.all])), h.apart⟩

theorem ChainAt.lt {w : World} {X : CA} {A : PA} {cb n : Nat} {hd : Int} {Z : Nat → Ent} (h : ChainAt w X A cb n hd Z) : ∀ k, k ∈ X.all → k < w.heap.size := by
  intro k hk
  have := h.head.lt; have := h.row.lt
  simp [CA.all] at hk
  omega

theorem ChainAt.setHead {w w1 : World} {X : CA} {A : PA} {cb n : Nat} {hd : Int} {Z : Nat → Ent} (h : ChainAt w X A cb n hd Z) (x : Int) (hw : w.setCell ⟨X.x, 2, none⟩ (.int .i64 x) = w1) : ChainAt w1 X A cb n x Z ∧ Only X.all w w1 := by
  subst hw
  refine ⟨⟨?_, h.row.only (Only.setCell (S := [X.x]) _ (by simp) _) (by simp; exact fun e => h.apart e.symm), h.apart⟩, Only.setCell _ (by simp [CA.all]) _⟩
  have := h.head.set_same 2 (.int .i64 x)
  simpa using this

theorem entCell_up (Z : Nat → Ent) (i : Nat) (e : Ent) (j : Nat) : updV (updV (entCell Z) (i * 2) (.int .i64 e.h)) (i * 2 + 1) e.v j = entCell (upE Z i e) j := by
  unfold updV
  by_cases h1 : j = i * 2 + 1
  · subst h1
    rw [if_pos rfl, entCell_v, upE_same]
  · rw [if_neg h1]
    by_cases h2 : j = i * 2
    · subst h2
      rw [if_pos rfl, entCell_h, upE_same]
    · rw [if_neg h2]
      unfold entCell
      rw [upE_other _ _ (show j / 2 ≠ i by omega)]

theorem entCell_up_v (Z : Nat → Ent) (i : Nat) (v : Value) (l : List Int) (j : Nat) : updV (entCell Z) (i * 2 + 1) v j = entCell (upE Z i ⟨(Z i).h, v, l⟩) j := by
  rw [← entCell_up]
  unfold updV
  by_cases h1 : j = i * 2 + 1
  · rw [if_pos h1, if_pos h1]
  · rw [if_neg h1, if_neg h1]
    by_cases h2 : j = i * 2
    · rw [if_pos h2, h2, entCell_h]
    · rw [if_neg h2]

theorem ChainAt.setEnt {w w1 : World} {X : CA} {A : PA} {cb n : Nat} {hd : Int} {Z : Nat → Ent} (h : ChainAt w X A cb n hd Z) (i : Nat) (e : Ent) (hw : (w.setCell ⟨X.sb, i * 2, none⟩ (.int .i64 e.h)).setCell ⟨X.sb, i * 2 + 1, none⟩ e.v = w1) : ChainAt w1 X A cb n hd (upE Z i e) ∧ Only X.all w w1 := by
  subst hw
  have o : ∀ {S : List Nat}, X.sb ∈ S → Only S w ((w.setCell ⟨X.sb, i * 2, none⟩ (.int .i64 e.h)).setCell ⟨X.sb, i * 2 + 1, none⟩ e.v) := fun hs => (Only.setCell _ hs _).trans (Only.setCell _ hs _)
  exact ⟨⟨h.head.only (o (S := [X.sb]) (by simp)) (by simp [h.apart]), ((h.row.set _ _).set _ _).congr (fun j _ => entCell_up Z i e j), h.apart⟩, o (by simp [CA.all])⟩

theorem ChainAt.cutEnt {w w1 : World} {X : CA} {A : PA} {cb n : Nat} {hd : Int} {Z : Nat → Ent} (h : ChainAt w X A cb n hd Z) (i : Nat) (hw : w.setCell ⟨X.sb, i * 2 + 1, none⟩ (.slice none 0 0) = w1) : ChainAt w1 X A cb n hd (upE Z i ⟨(Z i).h, .slice none 0 0, []⟩) ∧ Only X.all w w1 := by
  subst hw
  have o : ∀ {S : List Nat}, X.sb ∈ S → Only S w (w.setCell ⟨X.sb, i * 2 + 1, none⟩ (.slice none 0 0)) := fun hs => Only.setCell _ hs _
  exact ⟨⟨h.head.only (o (S := [X.sb]) (by simp)) (by simp [h.apart]), (h.row.set _ _).congr (fun j _ => entCell_up_v Z i _ [] j), h.apart⟩, o (by simp [CA.all])⟩

/-- The handle of the first of a list of slots; 0 of none. -/
def hdOf (S : Nat → Sl) : List Nat → Int
  | [] => 0
  | i :: _ => wd i (S i).gen

/-- Each slot's link is the next one's handle. -/
def Links (S : Nat → Sl) : List Nat → Prop
  | [] => True
  | i :: r => (S i).link = hdOf S r ∧ Links S r

theorem hdOf_congr {S S' : Nat → Sl} {L : List Nat} (h : ∀ i, i ∈ L → (S i).gen = (S' i).gen) : hdOf S L = hdOf S' L := by
  cases L with
  | nil => rfl
  | cons i r => simp [hdOf, h i (by simp)]

theorem Links.congr {S S' : Nat → Sl} : ∀ {L : List Nat}, (∀ i, i ∈ L → (S i).gen = (S' i).gen ∧ (S i).link = (S' i).link) → Links S L → Links S' L
  | [], _, _ => trivial
  | i :: r, h, ⟨h1, h2⟩ => ⟨by rw [← (h i (by simp)).2, h1]; exact hdOf_congr fun j hj => (h j (by simp [hj])).1, Links.congr (fun j hj => h j (by simp [hj])) h2⟩

theorem Links.drop {S : Nat → Sl} : ∀ {L : List Nat} (k : Nat), Links S L → Links S (L.drop k)
  | [], k, _ => by simp [Links]
  | i :: r, 0, h => h
  | i :: r, k + 1, h => by simpa using Links.drop (L := r) k h.2

theorem Links.next {S : Nat → Sl} {L : List Nat} {k i : Nat} (h : Links S L) (hk : L[k]? = some i) : (S i).link = hdOf S (L.drop (k + 1)) := by
  have h2 := h.drop k
  obtain ⟨hlt, hi⟩ := List.getElem?_eq_some_iff.1 hk
  rw [List.drop_eq_getElem_cons hlt, hi] at h2
  exact h2.1

/-- The versions' slots: in use, each once. -/
structure Vers (n : Nat) (S : Nat → Sl) (L : List Nat) : Prop where
  once : L.Nodup
  range : ∀ i, i ∈ L → 1 ≤ i ∧ i ≤ n
  odd : ∀ i, i ∈ L → (S i).gen % 2 = 1 ∧ 0 ≤ (S i).gen ∧ (S i).gen ≤ 1000000
  links : Links S L

theorem hdOf_drop {S : Nat → Sl} {L : List Nat} {k i : Nat} (hk : L[k]? = some i) : hdOf S (L.drop k) = wd i (S i).gen := by
  obtain ⟨hlt, hi⟩ := List.getElem?_eq_some_iff.1 hk
  rw [List.drop_eq_getElem_cons hlt, hi]
  rfl

theorem hdOf_end (S : Nat → Sl) (L : List Nat) : hdOf S (L.drop L.length) = 0 := by simp [hdOf]

end Go.Proofs.Yteeibhjmjejplaa
