/- A block of int64 cells told by a function, and slots of seven cells each. No condition. -/
import Derived.Test.YtpknnamficegbaaGreatDoorCLib
set_option linter.unusedVariables false
set_option linter.unusedSimpArgs false
set_option linter.unusedSectionVars false
set_option linter.unnecessarySimpa false
namespace Go.Proofs.YtpknnamficegbaaGreatDoor
open Go.RowKit

/-- The block holds int64 cells: the j-th is f j. -/
def RowI (w : World) (b N : Nat) (f : Nat → Int) (T : TypeId) : Prop :=
  ∃ c : Array Value, w.heap[b]? = some (.cells c T (0, 0)) ∧ c.size = N ∧ ∀ j, j < N → c[j]? = some (.int .i64 (f j))

def upd (f : Nat → Int) (k : Nat) (x : Int) : Nat → Int := fun j => if j = k then x else f j

theorem RowI.lt {w : World} {b N : Nat} {f : Nat → Int} {T : TypeId} (h : RowI w b N f T) : b < w.heap.size := by
  obtain ⟨c, hc, _⟩ := h
  exact (Array.getElem?_eq_some_iff.1 hc).1

theorem RowI.cell {w : World} {b N : Nat} {f : Nat → Int} {T : TypeId} (h : RowI w b N f T) {j : Nat} (hj : j < N) : w.cell? ⟨b, j, none⟩ = some (.int .i64 (f j)) := by
  obtain ⟨c, hc, _, hf⟩ := h
  simp [World.cell?, hc, hf j hj]

theorem RowI.free {w : World} {b N : Nat} {f : Nat → Int} {T : TypeId} (h : RowI w b N f T) (j : Nat) : w.frozen? ⟨b, j, none⟩ = false := by
  obtain ⟨c, hc, _⟩ := h
  simp [World.frozen?, hc]

theorem RowI.congr {w : World} {b N : Nat} {f g : Nat → Int} {T : TypeId} (h : RowI w b N f T) (e : ∀ j, j < N → f j = g j) : RowI w b N g T := by
  obtain ⟨c, hc, hs, hf⟩ := h
  exact ⟨c, hc, hs, fun j hj => by rw [hf j hj, e j hj]⟩

theorem RowI.set {w : World} {b N : Nat} {f : Nat → Int} {T : TypeId} (h : RowI w b N f T) (k : Nat) (x : Int) : RowI (w.setCell ⟨b, k, none⟩ (.int .i64 x)) b N (upd f k x) T := by
  obtain ⟨c, hc, hs, hf⟩ := h
  refine ⟨c.setIfInBounds k (.int .i64 x), ?_, by simp [hs], ?_⟩
  · simp [World.setCell, Array.getElem?_modify, hc]
  · intro j hj
    rw [Array.getElem?_setIfInBounds]
    by_cases hk : k = j
    · subst hk
      rw [if_pos rfl, if_pos (by omega)]
      simp [upd]
    · rw [if_neg hk, hf j hj]
      simp [upd, show j ≠ k by omega]

theorem RowI.only {S : List Nat} {w w' : World} {b N : Nat} {f : Nat → Int} {T : TypeId} (h : RowI w b N f T) (o : Only S w w') (hn : b ∉ S) : RowI w' b N f T := by
  have hl := h.lt
  obtain ⟨c, hc, hs, hf⟩ := h
  exact ⟨c, by rw [o.block b hl hn]; exact hc, hs, hf⟩

theorem RowI.of_blk {w : World} {b : Nat} {vs : Array Value} {T : TypeId} (h : Blk w b vs T) {N : Nat} {f : Nat → Int} (hs : vs.size = N) (hf : ∀ j, j < N → vs[j]? = some (.int .i64 (f j))) : RowI w b N f T := ⟨vs, h, hs, hf⟩

/-- A slot: its generation, its two words, its node. -/
structure Sl where
  gen : Int
  mark : Int
  link : Int
  a : Int
  b : Int
  c : Int
  d : Int

def Sl.get (s : Sl) : Nat → Int
  | 0 => s.gen
  | 1 => s.mark
  | 2 => s.link
  | 3 => s.a
  | 4 => s.b
  | 5 => s.c
  | _ => s.d

def flat (S : Nat → Sl) (j : Nat) : Int := (S (j / 7)).get (j % 7)
def upS (S : Nat → Sl) (i : Nat) (s : Sl) : Nat → Sl := fun j => if j = i then s else S j

theorem upS_same (S : Nat → Sl) (i : Nat) (s : Sl) : upS S i s i = s := by simp [upS]
theorem upS_other (S : Nat → Sl) {i j : Nat} (s : Sl) (h : j ≠ i) : upS S i s j = S j := by simp [upS, h]
theorem upS_upS (S : Nat → Sl) (i : Nat) (s s' : Sl) : upS (upS S i s) i s' = upS S i s' := by
  funext j; simp only [upS]; split <;> rfl

theorem flat_at (S : Nat → Sl) (i k : Nat) (hk : k < 7) : flat S (i * 7 + k) = (S i).get k := by
  unfold flat
  rw [show (i * 7 + k) / 7 = i by omega, show (i * 7 + k) % 7 = k by omega]

theorem flat_upd (S : Nat → Sl) (i k : Nat) (x : Int) (s : Sl) (hk : k < 7) (h0 : s.get k = x) (h1 : ∀ l, l < 7 → l ≠ k → s.get l = (S i).get l) (j : Nat) : upd (flat S) (i * 7 + k) x j = flat (upS S i s) j := by
  unfold upd flat upS
  by_cases hj : j = i * 7 + k
  · subst hj
    rw [if_pos rfl, if_pos (by omega), show (i * 7 + k) % 7 = k by omega, h0]
  · rw [if_neg hj]
    by_cases hi : j / 7 = i
    · rw [if_pos hi, hi]
      exact (h1 (j % 7) (by omega) (by omega)).symm
    · rw [if_neg hi]

theorem RowI.slot {w : World} {b N : Nat} {S : Nat → Sl} {T : TypeId} (h : RowI w b N (flat S) T) (i k : Nat) (hk : k < 7) (hN : i * 7 + 7 ≤ N) : w.cell? ⟨b, i * 7 + k, none⟩ = some (.int .i64 ((S i).get k)) := by
  rw [h.cell (show i * 7 + k < N by omega), flat_at S i k hk]

theorem RowI.put {w w1 : World} {b N : Nat} {S : Nat → Sl} {T : TypeId} (h : RowI w b N (flat S) T) (i k : Nat) (x : Int) (s : Sl) (hk : k < 7) (h0 : s.get k = x) (h1 : ∀ l, l < 7 → l ≠ k → s.get l = (S i).get l) (hw : w.setCell ⟨b, i * 7 + k, none⟩ (.int .i64 x) = w1) :
    RowI w1 b N (flat (upS S i s)) T := by
  subst hw
  exact (h.set (i * 7 + k) x).congr fun j _ => flat_upd S i k x s hk h0 h1 j

end Go.Proofs.YtpknnamficegbaaGreatDoor

