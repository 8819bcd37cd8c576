/- A region that draws its order: its first operations in any order, each by what its slot holds when it is done; those behind them, which wait for all of them, in the text's order. A law without a condition of its own. -/
import Derived.Test.YtacegkjobfeiiaaCRegion2
set_option linter.unusedVariables false
set_option linter.unusedSimpArgs false
set_option linter.unusedSectionVars false
set_option linter.unnecessarySimpa false
namespace Go.Proofs.Ytacegkjobfeiiaa
open Go.RowKit

/-- Does operation t wait for operation j, or for one that does? -/
def tws (ops : Array Oper) : Nat → Nat → Nat → Bool
  | 0, _, _ => false
  | f + 1, t, j => match ops[t]? with
    | none => false
    | some o => waits o j || (List.range t).any fun k => waits o k && tws ops f k j

/-- Each operation from n on waits for all ahead of it. -/
def tailB (ops : Array Oper) (f n : Nat) : Bool := (List.range ops.size).all fun t => Nat.blt t n || (List.range t).all fun j => tws ops f t j

def Shut (ops : Array Oper) (l : Array Bool) : Prop := ∀ i j o, ops[i]? = some o → bit l i = true → waits o j = true → bit l j = true

theorem waits_ready {ops : Array Oper} {l : Array Bool} {i j : Nat} {o : Oper} (hl : l.size = ops.size) (hord : inOrder 0 ops.toList = true) (ho : ops[i]? = some o) (hdep : ∀ e ∈ o.after, Region.binds .any e = true → l.getD e.on false = true) (hj : waits o j = true) : j < i ∧ bit l j = true := by
  unfold waits at hj
  rw [List.any_eq_true] at hj
  obtain ⟨e, he, h2⟩ := hj
  replace he : e ∈ o.after := by simpa using he
  simp only [Bool.and_eq_true, beq_iff_eq] at h2
  obtain ⟨h3, rfl⟩ := h2
  have ho' : ops.toList[i]? = some o := by simpa using ho
  have hlt := inOrder_get hord ho' e he h3
  have hi : i < ops.size := (Array.getElem?_eq_some_iff.1 ho).1
  have := hdep e he h3
  refine ⟨by omega, ?_⟩
  unfold bit
  have hsz : e.on < l.size := by omega
  simp [hsz] at this ⊢
  exact this

theorem tws_done {ops : Array Oper} {l : Array Bool} (hl : l.size = ops.size) (hord : inOrder 0 ops.toList = true) (hS : Shut ops l) : ∀ (f t j : Nat), (∀ o, ops[t]? = some o → ∀ k, waits o k = true → bit l k = true) → tws ops f t j = true → bit l j = true
  | 0, t, j, _, h => by cases h
  | f + 1, t, j, hw, h => by
    unfold tws at h
    cases ho : ops[t]? with
    | none => rw [ho] at h; cases h
    | some o =>
      rw [ho] at h
      simp only [Bool.or_eq_true, List.any_eq_true, Bool.and_eq_true] at h
      rcases h with h | ⟨k, _, h1, h2⟩
      · exact hw o ho j h
      · have hk := hw o ho k h1
        exact tws_done hl hord hS f k j (fun o' ho' m hm => hS k m o' ho' hk hm) h2

theorem tail_at {ops : Array Oper} {f n t j : Nat} (h : tailB ops f n = true) (ht : t < ops.size) (hn : n ≤ t) (hj : j < t) : tws ops f t j = true := by
  have := List.all_eq_true.1 h t (List.mem_range.2 ht)
  simp only [Bool.or_eq_true, Nat.blt_eq] at this
  rcases this with h1 | h1
  · omega
  · exact List.all_eq_true.1 h1 j (List.mem_range.2 hj)

theorem wp_region_head {P : Program} {ops : Array Oper} {Q : Exit → Act → World → Prop} {id : Nat} {a0 : Act} {w0 : World} (hm : P.follows .mixedOrders = true) (n f : Nat)
    (R : World → World → Prop) (Ps : Nat → Value → World → Prop) (D : Nat → Option Nat) (S : List Nat) (hR : ∀ w, R w w) (hT : ∀ a b c, R a b → R b c → R a c)
    (keep : ∀ i v w w', Ps i v w → R w w' → Ps i v w')
    (hn : n ≤ ops.size) (hord : inOrder 0 ops.toList = true) (htail : tailB ops f n = true) (hD : ∀ i d, i < n → D i = some d → d ∈ S ∧ d < a0.tmps.size) (hI : ∀ i j d, i < n → j < n → D i = some d → D j = some d → i = j)
    (hs : Each (Step2 P ops Q R Ps D a0 S w0.drew) 0 (ops.toList.take n))
    (hd : ∀ a w, (∀ i, i < n → Ps i (left2 D i a) w) → Fr a0 S a → R w0.drew w → wpList P ops Q (ops.toList.drop n) a w) : (Code.region id ops true).wp P Q a0 w0 := by
  refine wp_region_inv hm (fun l a w => l.size = ops.size ∧ Shut ops l ∧ (((∀ t, n ≤ t → t < ops.size → bit l t = false) ∧ (∀ i, i < n → bit l i = true → Ps i (left2 D i a) w) ∧ Fr a0 S a ∧ R w0.drew w) ∨
    ∃ m, n < m ∧ m ≤ ops.size ∧ (∀ i, i < ops.size → (bit l i = true ↔ i < m)) ∧ wpList P ops Q (ops.toList.drop m) a w)) ?_ ?_ ?_
  · rintro l a w i ⟨hl, hSh, hJ⟩ hr
    obtain ⟨hb, o, ho, hdep⟩ := mem_ready.1 hr
    have hi : i < ops.size := (Array.getElem?_eq_some_iff.1 ho).1
    have ho' : ops.toList[i]? = some o := by simpa using ho
    have hbit : bit l i = false := hb
    have hwt : ∀ j, waits o j = true → j < i ∧ bit l j = true := fun j hj => waits_ready hl hord ho hdep hj
    have hall : ∀ j, n ≤ i → j < i → bit l j = true := fun j hni hj => tws_done hl hord hSh f i j (fun o2 ho2 k hk => by rw [ho] at ho2; cases ho2; exact (hwt k hk).2) (tail_at htail hi hni hj)
    have hSh2 : Shut ops (l.setIfInBounds i true) := by
      intro x y o2 ho2 hx hy
      rw [bit_set l i x hbit] at hx
      rw [bit_set l i y hbit]
      by_cases hyi : y = i
      · rw [if_pos hyi]
      · rw [if_neg hyi]
        by_cases hxi : x = i
        · subst hxi
          rw [ho] at ho2; cases ho2
          exact (hwt y hy).2
        · rw [if_neg hxi] at hx
          exact hSh x y o2 ho2 hx hy
    have hl2 : (l.setIfInBounds i true).size = ops.size := by simpa using hl
    have tailstep : ∀ m, m = i → (∀ j, j < ops.size → (bit l j = true ↔ j < m)) → n ≤ m → wpList P ops Q (ops.toList.drop m) a w → wpOp P ops Q i (fun a w => (l.setIfInBounds i true).size = ops.size ∧ Shut ops (l.setIfInBounds i true) ∧ (((∀ t, n ≤ t → t < ops.size → bit (l.setIfInBounds i true) t = false) ∧ (∀ j, j < n → bit (l.setIfInBounds i true) j = true → Ps j (left2 D j a) w) ∧ Fr a0 S a ∧ R w0.drew w) ∨
        ∃ m, n < m ∧ m ≤ ops.size ∧ (∀ j, j < ops.size → (bit (l.setIfInBounds i true) j = true ↔ j < m)) ∧ wpList P ops Q (ops.toList.drop m) a w)) a w := by
      intro m hmi hbits hnm hw
      subst hmi
      have hdr : ops.toList.drop m = o :: ops.toList.drop (m + 1) := by
        have hlt : m < ops.toList.length := by simpa using hi
        rw [List.drop_eq_getElem_cons hlt]
        rw [List.getElem?_eq_getElem hlt] at ho'
        injection ho' with ho'
        rw [ho']
      rw [hdr] at hw
      have hnext : ∀ a w, wpList P ops Q (ops.toList.drop (m + 1)) a w → (l.setIfInBounds m true).size = ops.size ∧ Shut ops (l.setIfInBounds m true) ∧ (((∀ t, n ≤ t → t < ops.size → bit (l.setIfInBounds m true) t = false) ∧ (∀ j, j < n → bit (l.setIfInBounds m true) j = true → Ps j (left2 D j a) w) ∧ Fr a0 S a ∧ R w0.drew w) ∨
          ∃ m', n < m' ∧ m' ≤ ops.size ∧ (∀ j, j < ops.size → (bit (l.setIfInBounds m true) j = true ↔ j < m')) ∧ wpList P ops Q (ops.toList.drop m') a w) := by
        intro a w h
        refine ⟨hl2, hSh2, Or.inr ⟨m + 1, by omega, hi, fun j hj => ?_, h⟩⟩
        rw [bit_set l m j hbit]
        by_cases hjm : j = m
        · subst hjm; simp
        · rw [if_neg hjm, hbits j hj]; omega
      unfold wpOp
      simp only [ho]
      unfold wpList at hw
      split
      · rename_i hwt2
        rw [if_pos hwt2] at hw
        rcases hw with h | h
        · exact Or.inl (Oper.wp_mono (fun a w => hnext a w) h)
        · exact Or.inr h
      · rename_i hwt2
        rw [if_neg hwt2] at hw
        exact hnext _ _ hw
    rcases hJ with ⟨hT0, hP, hF, hO⟩ | ⟨m, hnm, hms, hbits, hw⟩
    · by_cases hin : i < n
      · have st := hs.get (j := i) (o := o) (by rw [List.getElem?_take, if_pos hin]; exact ho')
        rw [Nat.zero_add] at st
        have hdeps : ∀ j, waits o j = true → j < n ∧ Ps j (left2 D j a) w := fun j hj => by
          obtain ⟨h1, h2⟩ := hwt j hj
          exact ⟨by omega, hP j (by omega) h2⟩
        have hwant : Region.wanted o (yielded ops a.tmps) = true := by
          unfold Region.wanted
          rcases st.guard with h | ⟨j, b, d, h, hj, hdj, hoj, hv⟩
          · rw [h]
          · rw [h]
            simp only
            obtain ⟨hjs, hj2⟩ := hdeps j hj
            have hvj := hv _ _ hj2
            unfold left2 at hvj
            rw [hdj] at hvj
            simp only at hvj
            have hdl : d < a.tmps.size := by rw [hF.size]; exact (hD j d hjs hdj).2
            have : a.tmps[d]? = some (.bool b) := by
              unfold sl at hvj
              simp [hdl] at hvj
              simp [hdl, hvj]
            unfold yielded
            rw [hoj]
            simp [this]
        unfold wpOp
        simp only [ho]
        rw [if_pos hwant]
        left
        refine Oper.wp_mono ?_ (st.go a w (fun j hj => (hdeps j hj).2) hF hO)
        rintro a' w' ⟨v, rfl, hv, hX⟩
        have hother : ∀ j, j < n → j ≠ i → left2 D j (a.put (D i) v) = left2 D j a := by
          intro j hj hji
          unfold left2
          cases hDj : D j with
          | none => rfl
          | some d =>
            simp only
            cases hDi : D i with
            | none => rfl
            | some d' =>
              have hdl : d' < a.tmps.size := by rw [hF.size]; exact (hD i d' hin hDi).2
              rw [sl_put _ hdl, if_neg]
              rintro rfl
              exact hji (hI j i d hj hin hDj hDi)
        have hself : left2 D i (a.put (D i) v) = match D i with | some _ => v | none => undef := by
          unfold left2
          cases hDi : D i with
          | none => rfl
          | some d' =>
            have hdl : d' < a.tmps.size := by rw [hF.size]; exact (hD i d' hin hDi).2
            simp only
            rw [sl_put _ hdl, if_pos rfl]
        refine ⟨hl2, hSh2, Or.inl ⟨fun t ht hts => ?_, fun j hj hbj => ?_, ?_, hT _ _ _ hO hX⟩⟩
        · rw [bit_set l i t hbit, if_neg (by omega)]; exact hT0 t ht hts
        · by_cases hji : j = i
          · subst hji; rw [hself]; exact hv
          · rw [hother j hj hji]
            rw [bit_set l i j hbit, if_neg hji] at hbj
            exact keep _ _ _ _ (hP j hj hbj) hX
        · cases hDi : D i with
          | none => exact hF
          | some d' => exact hF.put (hD i d' hin hDi).1 (hD i d' hin hDi).2 v
      · have hni : n ≤ i := by omega
        have hii : i = n := by
          by_cases h : i = n
          · exact h
          · have h1 := hall n hni (by omega)
            rw [hT0 n (Nat.le_refl _) (by omega)] at h1
            cases h1
        subst hii
        have hbits : ∀ j, j < ops.size → (bit l j = true ↔ j < i) := fun j hj => by
          constructor
          · intro h
            by_cases hji : j < i
            · exact hji
            · rw [hT0 j (by omega) hj] at h; cases h
          · intro h; exact hall j (Nat.le_refl _) h
        exact tailstep i rfl hbits (Nat.le_refl _) (hd a w (fun j hj => hP j hj (hall j (Nat.le_refl _) hj)) hF hO)
    · have him : m = i := by
        have h1 : ¬ i < m := fun h => by have := (hbits i hi).2 h; rw [hbit] at this; cases this
        by_cases h : m = i
        · exact h
        · have h2 := hall m (by omega) (by omega)
          have := (hbits m (by omega)).1 h2
          omega
      exact tailstep m him hbits (by omega) hw
  · rintro l a w ⟨hl, hSh, hJ⟩ hr
    have hstuck : ∀ i, i < ops.size → (∀ j, j < i → bit l j = true) → bit l i = true := by
      intro i hi hall
      cases hb : bit l i with
      | true => rfl
      | false =>
        have : i ∈ Region.ready .any ops l := by
          refine mem_ready.2 ⟨hb, ops[i], by simp [hi], fun e he h => ?_⟩
          have hlt := inOrder_get hord (j := i) (o := ops[i]) (by simp [hi]) e he h
          have h2 := hall e.on (by omega)
          unfold bit at h2
          have hsz : e.on < l.size := by omega
          simp [hsz] at h2 ⊢
          exact h2
        rw [hr] at this
        cases this
    have hall : ∀ k i, i < ops.size → i ≤ k → bit l i = true := by
      intro k
      induction k with
      | zero => intro i hi hik; exact hstuck i hi fun j hj => by omega
      | succ k ih => intro i hi hik; exact hstuck i hi fun j hj => ih j (by omega) (by omega)
    rcases hJ with ⟨hT0, hP, hF, hO⟩ | ⟨m, hnm, hms, hbits, hw⟩
    · have hns : n = ops.size := by
        by_cases h : n = ops.size
        · exact h
        · have h1 := hall n n (by omega) (Nat.le_refl _)
          rw [hT0 n (Nat.le_refl _) (by omega)] at h1
          cases h1
      have := hd a w (fun i hi => hP i hi (hall i i (by omega) (Nat.le_refl _))) hF hO
      rw [List.drop_eq_nil_of_le (by simp; omega)] at this
      exact this
    · have hms2 : m = ops.size := by
        by_cases h : m = ops.size
        · exact h
        · have h1 := hall m m (by omega) (Nat.le_refl _)
          have := (hbits m (by omega)).1 h1
          omega
      rw [List.drop_eq_nil_of_le (by simp; omega)] at hw
      exact hw
  · refine ⟨by simp, ?_, Or.inl ⟨fun t ht hts => ?_, fun i hi hb => ?_, Fr.refl _ _, hR _⟩⟩
    · intro i j o ho hb
      have hi : i < ops.size := (Array.getElem?_eq_some_iff.1 ho).1
      unfold bit at hb
      simp [hi] at hb
    · unfold bit
      simp [hts]
    · unfold bit at hb
      simp [show i < ops.size by omega] at hb

theorem heads_in {n m : Nat} {l : List (Option Nat)} {S : List Nat} (h : (l.all fun o => match o with | none => true | some d => S.contains d && Nat.blt d m) = true) (i d : Nat) (_ : i < n) (hi : l.getD i none = some d) : d ∈ S ∧ d < m := by
  have hm : some d ∈ l := by
    rw [List.getD_eq_getElem?_getD] at hi
    cases hl : l[i]? with
    | none => rw [hl] at hi; cases hi
    | some o => rw [hl] at hi; simp at hi; subst hi; exact List.mem_of_getElem? hl
  have := List.all_eq_true.1 h _ hm
  simpa using this

theorem heads_apart {n : Nat} {l : List (Option Nat)} (h : ((List.range n).all fun i => (List.range n).all fun j => decide (l.getD i none ≠ l.getD j none) || (l.getD i none).isNone || decide (i = j)) = true) (i j d : Nat) (hi : i < n) (hj : j < n) (h1 : l.getD i none = some d) (h2 : l.getD j none = some d) : i = j := by
  have := List.all_eq_true.1 (List.all_eq_true.1 h i (List.mem_range.2 hi)) j (List.mem_range.2 hj)
  rw [h1, h2] at this
  simpa using this

theorem s_valw {P : Program} {o : Oper} {a : Act} {w w' : World} {K : Act → World → Prop} {Q : Exit → Act → World → Prop} {v : Value} (h : (execOp a.eval o).run P w = .ok (.value v) w') (k : K (a.put o.dst v) w') : o.wp P a w K Q := by
  unfold Oper.wp
  rw [h]
  exact k

theorem keep_cell {w w' : World} {a : Addr} {v : Value} (o : Only [] w w') (h : w.cell? a = some v) : w'.cell? a = some v := (o.cell (by
  cases hb : w.heap[a.block]? with
  | none => simp [World.cell?, hb] at h
  | some x => exact (Array.getElem?_eq_some_iff.1 hb).1) (by simp)).trans h

end Go.Proofs.Ytacegkjobfeiiaa

