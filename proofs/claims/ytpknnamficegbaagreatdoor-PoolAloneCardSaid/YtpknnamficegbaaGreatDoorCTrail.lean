/- The places that come behind one another from a head, till none comes or one comes again: plain laws, no program in sight. -/
import Derived.Test.YtpknnamficegbaaGreatDoorCPlaces
set_option linter.unusedVariables false
set_option linter.unusedSimpArgs false
set_option linter.unusedSectionVars false
set_option linter.unnecessarySimpa false
namespace Go.Proofs.YtpknnamficegbaaGreatDoor

def trailF (nx : List Int) : Nat → List Nat → Nat → List Nat
  | 0, came, _ => came
  | k + 1, came, i => if i = 0 ∨ i ∈ came then came else trailF nx k (came ++ [i]) (nx.getD i 0).toNat

def trail (n : Nat) (nx : List Int) (hd : Nat) : List Nat := trailF nx (n + 1) [] hd

/-- On the way: these have come, i is the next one. -/
structure Tl (nx : List Int) (n hd k : Nat) (came : List Nat) (i : Nat) : Prop where
  fin : trailF nx k came i = trail n nx hd
  fuel : came.length + k = n + 1
  nodup : came.Nodup
  rng : ∀ x, x ∈ came → 1 ≤ x ∧ x ≤ n
  le : i ≤ n

section
variable {nx : List Int} {n hd k i : Nat} {came : List Nat}

theorem Tl.start (h : hd ≤ n) : Tl nx n hd (n + 1) [] hd := ⟨rfl, by simp, List.nodup_nil, fun x hx => by simp at hx, h⟩

theorem Tl.few (h : Tl nx n hd k came i) : came.length ≤ n := nodup_length n came h.nodup h.rng

theorem Tl.more (h : Tl nx n hd k came i) : ∃ q, k = q + 1 := ⟨k - 1, by have := h.few; have := h.fuel; omega⟩

theorem Tl.stop (h : Tl nx n hd k came i) (hi : i = 0 ∨ i ∈ came) : came = trail n nx hd := by
  obtain ⟨q, rfl⟩ := h.more
  have := h.fin
  rw [trailF, if_pos hi] at this
  exact this

theorem Tl.step {j : Nat} (h : Tl nx n hd k came i) (h0 : i ≠ 0) (hn : i ∉ came) (hj : nx.getD i 0 = (j : Nat)) (hjn : j ≤ n) : ∃ q, k = q + 1 ∧ Tl nx n hd q (came ++ [i]) j := by
  obtain ⟨q, rfl⟩ := h.more
  have hf := h.fin
  rw [trailF, if_neg (by rintro (h1 | h1); exact h0 h1; exact hn h1), hj] at hf
  refine ⟨q, rfl, by simpa using hf, by have := h.fuel; simp; omega, List.nodup_append.2 ⟨h.nodup, by simp, fun a ha b hb e => ?_⟩, fun x hx => ?_, hjn⟩
  · simp at hb
    subst hb
    exact hn (e ▸ ha)
  · rcases List.mem_append.1 hx with hx | hx
    · exact h.rng x hx
    · simp at hx; subst hx; have := h.le; omega

theorem trail_rng (h : hd ≤ n) (hr : ∀ j, j ≤ n → 0 ≤ nx.getD j 0 ∧ nx.getD j 0 ≤ n) : (∀ x, x ∈ trail n nx hd → 1 ≤ x ∧ x ≤ n) ∧ (trail n nx hd).length ≤ n := by
  have : ∀ k came i, Tl nx n hd k came i → (∀ x, x ∈ trail n nx hd → 1 ≤ x ∧ x ≤ n) ∧ (trail n nx hd).length ≤ n := by
    intro k
    induction k with
    | zero => intro came i h; obtain ⟨q, hq⟩ := h.more; omega
    | succ k ih =>
      intro came i h
      by_cases hi : i = 0 ∨ i ∈ came
      · rw [← h.stop hi]
        exact ⟨h.rng, h.few⟩
      · have hr2 := hr i h.le
        obtain ⟨q, hq, h2⟩ := h.step (j := (nx.getD i 0).toNat) (fun e => hi (Or.inl e)) (fun e => hi (Or.inr e)) (by omega) (by omega)
        have : q = k := by omega
        subst this
        exact ih _ _ h2
  exact this _ _ _ (Tl.start h)

end

end Go.Proofs.YtpknnamficegbaaGreatDoor

