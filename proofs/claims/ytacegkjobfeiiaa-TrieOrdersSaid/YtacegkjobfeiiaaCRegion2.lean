/- A region that draws its order, walked once, operation by operation; each operation does to memory what a given relation allows. A law without a condition of its own. -/
import Derived.Test.YtacegkjobfeiiaaCRegion
set_option linter.unusedVariables false
set_option linter.unusedSimpArgs false
set_option linter.unusedSectionVars false
set_option linter.unnecessarySimpa false
namespace Go.Proofs.Ytacegkjobfeiiaa
open Go.RowKit

/-- What operation i has left in its slot; nothing, where it has none. -/
def left2 (D : Nat → Option Nat) (i : Nat) (a : Act) : Value := match D i with
  | some d => sl a d
  | none => undef

/-- What an operation does once those that it waits for are done: R is what each may do to memory. -/
structure Step2 (P : Program) (ops : Array Oper) (Q : Exit → Act → World → Prop) (R : World → World → Prop) (Ps : Nat → Value → World → Prop) (D : Nat → Option Nat) (a0 : Act) (S : List Nat) (w0 : World) (i : Nat) (o : Oper) : Prop where
  dst : o.dst = D i
  guard : o.guard = none ∨ ∃ j b d, o.guard = some (j, b) ∧ waits o j = true ∧ D j = some d ∧ (ops[j]?).bind (·.dst) = some d ∧ ∀ v w, Ps j v w → v = .bool b
  go : ∀ a w, (∀ j, waits o j = true → Ps j (left2 D j a) w) → Fr a0 S a → R w0 w → o.wp P a w (fun a' w' => ∃ v, a' = a.put (D i) v ∧ Ps i (match D i with | some _ => v | none => undef) w' ∧ R w w') Q

theorem wp_region_spec2 {P : Program} {ops : Array Oper} {Q : Exit → Act → World → Prop} {id : Nat} {a0 : Act} {w0 : World} (hm : P.follows .mixedOrders = true)
    (R : World → World → Prop) (Ps : Nat → Value → World → Prop) (D : Nat → Option Nat) (S : List Nat) (hR : ∀ w, R w w) (hT : ∀ a b c, R a b → R b c → R a c)
    (keep : ∀ i v w w', Ps i v w → R w w' → Ps i v w')
    (hord : inOrder 0 ops.toList = true) (hD : ∀ i d, i < ops.size → D i = some d → d ∈ S ∧ d < a0.tmps.size) (hI : ∀ i j d, i < ops.size → j < ops.size → D i = some d → D j = some d → i = j)
    (hs : Each (Step2 P ops Q R Ps D a0 S w0.drew) 0 ops.toList)
    (hd : ∀ a w, (∀ i, i < ops.size → Ps i (left2 D i a) w) → Fr a0 S a → R w0.drew w → Q .normal a w) : (Code.region id ops true).wp P Q a0 w0 := by
  refine wp_region_inv hm (fun l a w => (∀ i, i < ops.size → bit l i = true → Ps i (left2 D i a) w) ∧ Fr a0 S a ∧ R w0.drew w ∧ l.size = ops.size) ?_ ?_ ?_
  · rintro l a w i ⟨hP, hF, hO, hl⟩ hr
    obtain ⟨hb, o, ho, hdep⟩ := mem_ready.1 hr
    have hi : i < ops.size := (Array.getElem?_eq_some_iff.1 ho).1
    have ho' : ops.toList[i]? = some o := by simpa using ho
    have st := hs.get ho'
    rw [Nat.zero_add] at st
    have hbit : bit l i = false := hb
    have hdeps : ∀ j, waits o j = true → j < ops.size ∧ Ps j (left2 D j a) w := by
      intro j hj
      unfold waits at hj
      rw [List.any_eq_true] at hj
      obtain ⟨e, he, h2⟩ := hj
      replace he : e ∈ o.after := by simpa using he
      simp only [Bool.and_eq_true, beq_iff_eq] at h2
      obtain ⟨h3, rfl⟩ := h2
      have hlt := inOrder_get hord ho' e he h3
      refine ⟨by omega, hP _ (by omega) ?_⟩
      have := hdep e he h3
      unfold bit
      have hsz : e.on < l.size := by omega
      simp [hsz] at this ⊢
      exact this
    have hwant : Region.wanted o (yielded ops a.tmps) = true := by
      unfold Region.wanted
      rcases st.guard with h | ⟨j, b, d, h, hj, hdj, hoj, hv⟩
      · rw [h]
      · rw [h]
        simp only
        obtain ⟨hjs, hj2⟩ := hdeps j hj
        have hvj := hv _ _ hj2
        unfold left2 at hvj
        rw [hdj] at hvj
        simp only at hvj
        have hdl : d < a.tmps.size := by rw [hF.size]; exact (hD j d hjs hdj).2
        have : a.tmps[d]? = some (.bool b) := by
          unfold sl at hvj
          simp [hdl] at hvj
          simp [hdl, hvj]
        unfold yielded
        rw [hoj]
        simp [this]
    unfold wpOp
    simp only [ho]
    rw [if_pos hwant]
    left
    refine Oper.wp_mono ?_ (st.go a w (fun j hj => (hdeps j hj).2) hF hO)
    rintro a' w' ⟨v, rfl, hv, hX⟩
    have hother : ∀ j, j < ops.size → j ≠ i → left2 D j (a.put (D i) v) = left2 D j a := by
      intro j hj hji
      unfold left2
      cases hDj : D j with
      | none => rfl
      | some d =>
        simp only
        cases hDi : D i with
        | none => rfl
        | some d' =>
          have hdl : d' < a.tmps.size := by rw [hF.size]; exact (hD i d' hi hDi).2
          rw [sl_put _ hdl, if_neg]
          rintro rfl
          exact hji (hI j i d hj hi hDj hDi)
    have hself : left2 D i (a.put (D i) v) = match D i with | some _ => v | none => undef := by
      unfold left2
      cases hDi : D i with
      | none => rfl
      | some d' =>
        have hdl : d' < a.tmps.size := by rw [hF.size]; exact (hD i d' hi hDi).2
        simp only
        rw [sl_put _ hdl, if_pos rfl]
    refine ⟨fun j hj hbj => ?_, ?_, hT _ _ _ hO hX, by simpa using hl⟩
    · by_cases hji : j = i
      · subst hji; rw [hself]; exact hv
      · rw [hother j hj hji]
        rw [bit_set l i j hbit, if_neg hji] at hbj
        exact keep _ _ _ _ (hP j hj hbj) hX
    · cases hDi : D i with
      | none => exact hF
      | some d' => exact hF.put (hD i d' hi hDi).1 (hD i d' hi hDi).2 v
  · rintro l a w ⟨hP, hF, hO, hl⟩ hr
    have hall : ∀ k i, i < ops.size → i ≤ k → bit l i = true := by
      intro k
      induction k with
      | zero =>
        intro i hi hik
        cases hb : bit l i with
        | true => rfl
        | false =>
          have : i ∈ Region.ready .any ops l := by
            refine mem_ready.2 ⟨hb, ops[i], by simp [hi], fun e he h => ?_⟩
            have := inOrder_get hord (j := i) (o := ops[i]) (by simp [hi]) e he h
            omega
          rw [hr] at this
          cases this
      | succ k ih =>
        intro i hi hik
        cases hb : bit l i with
        | true => rfl
        | false =>
          have : i ∈ Region.ready .any ops l := by
            refine mem_ready.2 ⟨hb, ops[i], by simp [hi], fun e he h => ?_⟩
            have hlt := inOrder_get hord (j := i) (o := ops[i]) (by simp [hi]) e he h
            have h2 := ih e.on (by omega) (by omega)
            unfold bit at h2
            have hsz : e.on < l.size := by omega
            simp [hsz] at h2 ⊢
            exact h2
          rw [hr] at this
          cases this
    exact hd a w (fun i hi => hP i hi (hall i i hi (Nat.le_refl _))) hF hO
  · refine ⟨fun i hi hb => ?_, Fr.refl _ _, hR _, by simp⟩
    unfold bit at hb
    simp [hi] at hb

end Go.Proofs.Ytacegkjobfeiiaa

