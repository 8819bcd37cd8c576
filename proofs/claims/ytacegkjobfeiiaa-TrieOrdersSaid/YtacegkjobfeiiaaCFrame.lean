/- Loops and cuts over a frame whose slots are told by ONE function: for functions of many slots. Laws alone, no condition of their own. -/
import Derived.Deep.CutBlock
import Derived.Test.YtacegkjobfeiiaaCLib
set_option linter.unusedVariables false
set_option linter.unusedSimpArgs false
set_option linter.unusedSectionVars false
set_option linter.unnecessarySimpa false
namespace Go.Proofs.Ytacegkjobfeiiaa
open Go.RowKit

/-- The frame's slots, told by a function. -/
def frameOf (f : Nat → Value) (N : Nat) : List Value := (List.range N).map f

theorem frameOf_getD (l : List Value) (d : Value) {N : Nat} (h : l.length = N) : frameOf (fun i => l.getD i d) N = l := by
  subst h
  apply List.ext_getElem
  · simp [frameOf]
  · intro i h1 h2
    simp [frameOf, List.getD, List.getElem?_eq_getElem h2]

theorem wp_loop_f {P : Program} {Q : Exit → Act → World → Prop} {l : List Value} {ds : List Deferred} {w : World} {c : Code} (N : Nat) (I : Nat → (Nat → Value) → World → Prop) (n₀ : Nat) (hl : l.length = N) (h₀ : I n₀ (fun i => l.getD i undef) w)
    (round : ∀ n f w, I n f w → ∀ (J : Nat → Act → World → Prop) (K : Act → World → Prop), (∀ (k : Nat) (l' : List Value) (w' : World), l'.length = N → I k (fun i => l'.getD i undef) w' → J k ⟨l'.toArray, ds⟩ w') → (∀ a' w', Handed J n a' w' → K a' w') → c.wp P (Exit.then K Q) ⟨(frameOf f N).toArray, ds⟩ w) :
    (Code.loop c).wp P Q ⟨l.toArray, ds⟩ w := by
  refine wp_loop_ghost_k (fun n a w => ∃ f, I n f w ∧ a = ⟨(frameOf f N).toArray, ds⟩) n₀ ⟨_, h₀, by rw [frameOf_getD l undef hl]⟩ ?_
  rintro n a w ⟨f, hI, rfl⟩ J K hJ hK
  exact round n f w hI J K (fun k l' w' hl' hI' => hJ k _ w' ⟨_, hI', by rw [frameOf_getD l' undef hl']⟩) hK

theorem wp_cut_f {P : Program} {s : Code} {K : Act → World → Prop} {Q' : Exit → Act → World → Prop} {a : Act} {w : World} (N : Nat) (ds : List Deferred) (R : (Nat → Value) → World → Prop)
    (rest : ∀ f w', R f w' → K ⟨(frameOf f N).toArray, ds⟩ w')
    (first : ∀ (J K' : Act → World → Prop), (∀ (l' : List Value) (w' : World), l'.length = N → R (fun i => l'.getD i undef) w' → J ⟨l'.toArray, ds⟩ w') → (∀ a' w', Met J a' w' → K' a' w') → s.wp P (Exit.then K' Q') a w) : s.wp P (Exit.then K Q') a w := by
  refine wp_cut (fun a w => ∃ f, R f w ∧ a = ⟨(frameOf f N).toArray, ds⟩) ?_ ?_
  · rintro a' w' ⟨f, h, rfl⟩
    exact rest f w' h
  · intro J K' hJ hK
    exact first J K' (fun l' w' hl' h => hJ _ _ ⟨_, h, by rw [frameOf_getD l' undef hl']⟩) hK

/-- The meeting, of a frame that is a variable. -/
theorem meet_act {J : Act → World → Prop} {N : Nat} {ds : List Deferred} {R : (Nat → Value) → World → Prop} (hJ : ∀ (l' : List Value) (w' : World), l'.length = N → R (fun i => l'.getD i undef) w' → J ⟨l'.toArray, ds⟩ w') {a : Act} {w : World} (hs : a.tmps.size = N) (hd : a.defers = ds) (h : R (fun i => a.tmps.getD i undef) w) : J a w := by
  have h1 := hJ a.tmps.toList w (by simpa using hs) (by
    have e : (fun i => a.tmps.toList.getD i undef) = fun i => a.tmps.getD i undef := by
      funext i
      simp [List.getD]
    rw [e]; exact h)
  cases a with
  | mk t d => subst hd; simpa using h1

/-- 'wp_cut_f', where the statement itself ends in a frame that is a variable. -/
theorem wp_cut_f2 {P : Program} {s : Code} {K : Act → World → Prop} {Q' : Exit → Act → World → Prop} {a : Act} {w : World} (N : Nat) (ds : List Deferred) (R : (Nat → Value) → World → Prop)
    (rest : ∀ f w', R f w' → K ⟨(frameOf f N).toArray, ds⟩ w')
    (first : ∀ (J K' : Act → World → Prop), (∀ (a' : Act) (w' : World), a'.tmps.size = N → a'.defers = ds → R (fun i => a'.tmps.getD i undef) w' → J a' w') → (∀ a' w', Met J a' w' → K' a' w') → s.wp P (Exit.then K' Q') a w) : s.wp P (Exit.then K Q') a w :=
  wp_cut_f N ds R rest fun J K' hJ hK => first J K' (fun _ _ hs hd h => meet_act hJ hs hd h) hK

end Go.Proofs.Ytacegkjobfeiiaa

