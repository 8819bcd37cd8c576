/- A block of cells told by a function; a slice value that reads as a list of integers. No condition. -/
import Derived.Test.YtpknnamficegbaaGreatDoorCLib
set_option linter.unusedVariables false
set_option linter.unusedSimpArgs false
set_option linter.unusedSectionVars false
set_option linter.unnecessarySimpa false
namespace Go.Proofs.YtpknnamficegbaaGreatDoor
open Go.RowKit

/-- The block's cells: the j-th is f j. -/
def RowV (w : World) (b N : Nat) (f : Nat → Value) (T : TypeId) : Prop :=
  ∃ c : Array Value, w.heap[b]? = some (.cells c T (0, 0)) ∧ c.size = N ∧ ∀ j, j < N → c[j]? = some (f j)

def updV (f : Nat → Value) (k : Nat) (x : Value) : Nat → Value := fun j => if j = k then x else f j

theorem RowV.lt {w : World} {b N : Nat} {f : Nat → Value} {T : TypeId} (h : RowV w b N f T) : b < w.heap.size := by
  obtain ⟨c, hc, _⟩ := h
  exact (Array.getElem?_eq_some_iff.1 hc).1

theorem RowV.cell {w : World} {b N : Nat} {f : Nat → Value} {T : TypeId} (h : RowV w b N f T) {j : Nat} (hj : j < N) : w.cell? ⟨b, j, none⟩ = some (f j) := by
  obtain ⟨c, hc, _, hf⟩ := h
  simp [World.cell?, hc, hf j hj]

theorem RowV.free {w : World} {b N : Nat} {f : Nat → Value} {T : TypeId} (h : RowV w b N f T) (j : Nat) : w.frozen? ⟨b, j, none⟩ = false := by
  obtain ⟨c, hc, _⟩ := h
  simp [World.frozen?, hc]

theorem RowV.congr {w : World} {b N : Nat} {f g : Nat → Value} {T : TypeId} (h : RowV w b N f T) (e : ∀ j, j < N → f j = g j) : RowV w b N g T := by
  obtain ⟨c, hc, hs, hf⟩ := h
  exact ⟨c, hc, hs, fun j hj => by rw [hf j hj, e j hj]⟩

theorem RowV.set {w : World} {b N : Nat} {f : Nat → Value} {T : TypeId} (h : RowV w b N f T) (k : Nat) (x : Value) : RowV (w.setCell ⟨b, k, none⟩ x) b N (updV f k x) T := by
  obtain ⟨c, hc, hs, hf⟩ := h
  refine ⟨c.setIfInBounds k x, ?_, by simp [hs], ?_⟩
  · simp [World.setCell, Array.getElem?_modify, hc]
  · intro j hj
    rw [Array.getElem?_setIfInBounds]
    by_cases hk : k = j
    · subst hk
      rw [if_pos rfl, if_pos (by omega)]
      simp [updV]
    · rw [if_neg hk, hf j hj]
      simp [updV, show j ≠ k by omega]

theorem RowV.only {S : List Nat} {w w' : World} {b N : Nat} {f : Nat → Value} {T : TypeId} (h : RowV w b N f T) (o : Only S w w') (hn : b ∉ S) : RowV w' b N f T := by
  have hl := h.lt
  obtain ⟨c, hc, hs, hf⟩ := h
  exact ⟨c, by rw [o.block b hl hn]; exact hc, hs, hf⟩

theorem RowV.of_blk {w : World} {b : Nat} {vs : Array Value} {T : TypeId} (h : Blk w b vs T) {N : Nat} {f : Nat → Value} (hs : vs.size = N) (hf : ∀ j, j < N → vs[j]? = some (f j)) : RowV w b N f T := ⟨vs, h, hs, hf⟩

/-- The slice value reads as the list, wherever its cells lie. -/
def Reads (w : World) (v : Value) (xs : List Int) : Prop :=
  ∃ ad cap, v = .slice ad xs.length cap ∧ (xs = [] ∨ ∃ b o, ad = some ⟨b, o, none⟩ ∧ b < w.heap.size ∧ ∀ i, i < xs.length → w.cell? ⟨b, o + i, none⟩ = some (.int .i64 (xs.getD i 0)))

def blockOf : Value → List Nat
  | .slice (some a) _ _ => [a.block]
  | _ => []

theorem Reads.only {S : List Nat} {w w' : World} {v : Value} {xs : List Int} (h : Reads w v xs) (o : Only S w w') (hn : ∀ k, k ∈ blockOf v → k ∉ S) : Reads w' v xs := by
  obtain ⟨ad, cap, rfl, h⟩ := h
  refine ⟨ad, cap, rfl, ?_⟩
  rcases h with h | ⟨b, o', rfl, hb, hc⟩
  · exact .inl h
  · exact .inr ⟨b, o', rfl, Nat.lt_of_lt_of_le hb o.size, fun i hi => (o.cell (p := ⟨b, o' + i, none⟩) hb (hn b (by simp [blockOf]))).trans (hc i hi)⟩

theorem Reads.nil (w : World) : Reads w (.slice none 0 0) [] := ⟨none, 0, rfl, .inl rfl⟩

theorem Reads.of_own {w : World} {base n : Nat} {e : TypeId} {v : Value} {xs : List Int} (h : w.ownsRow base e 1 v n (xs.map (Value.int .i64))) : Reads w v xs := by
  have hl : xs.length = n := by simpa using h.1
  rcases h.2 with ⟨hv, h0⟩ | ⟨g, cap, cur, hv, hg, hb, hnc, hm, hs, ht⟩
  · subst hv
    have : xs = [] := List.eq_nil_of_length_eq_zero (by omega)
    subst this
    exact Reads.nil w
  · subst hv
    refine ⟨_, cap, by rw [hl], .inr ⟨g, 0, rfl, (Array.getElem?_eq_some_iff.1 hb).1, ?_⟩⟩
    intro i hi
    have hx : (xs.map (Value.int .i64))[i]? = some (.int .i64 (xs.getD i 0)) := by
      simp [List.getElem?_eq_getElem hi, List.getD]
    have := h.cells (g := g) rfl i _ hx
    rw [Addr.add_lit] at this
    exact this

theorem own_lt {w : World} {base n size : Nat} {e : TypeId} {v : Value} {xs : List Value} (h : w.ownsRow base e size v n xs) : ∀ k, k ∈ blockOf v → base ≤ k ∧ k < w.heap.size := by
  intro k hk
  refine h.lt k ?_
  rcases h.2 with ⟨hv, _⟩ | ⟨g, cap, cur, hv, _⟩
  · subst hv; simp [blockOf] at hk
  · subst hv; simp [blockOf] at hk; simp [Value.ownBlock, hk]

end Go.Proofs.YtpknnamficegbaaGreatDoor

