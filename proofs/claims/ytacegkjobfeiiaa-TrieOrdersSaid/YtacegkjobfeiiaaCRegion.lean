/- A region that draws its order and whose operations keep all old memory: walked once, operation by operation, by what each slot holds when it is done. Laws without a condition of their own. -/
import Derived.Test.YtacegkjobfeiiaaCFrame
import Derived.Test.YtacegkjobfeiiaaCInv
set_option linter.unusedVariables false
set_option linter.unusedSimpArgs false
set_option linter.unusedSectionVars false
set_option linter.unnecessarySimpa false
namespace Go.Proofs.Ytacegkjobfeiiaa
open Go.RowKit

/-- Does operation o wait for operation j? -/
def waits (o : Oper) (j : Nat) : Bool := o.after.toList.any fun e => Region.binds .any e && e.on == j

/-- Each operation waits for earlier ones alone. -/
def inOrder : Nat → List Oper → Bool
  | _, [] => true
  | i, o :: r => (o.after.all fun e => !Region.binds .any e || Nat.blt e.on i) && inOrder (i + 1) r

def Each (p : Nat → Oper → Prop) : Nat → List Oper → Prop
  | _, [] => True
  | i, o :: r => p i o ∧ Each p (i + 1) r

theorem Each.get {p : Nat → Oper → Prop} : ∀ {l : List Oper} {i j : Nat} {o : Oper}, Each p i l → l[j]? = some o → p (i + j) o
  | [], _, _, _, _, h => by simp at h
  | a :: r, i, 0, o, he, h => by simp at h; subst h; exact he.1
  | a :: r, i, j + 1, o, he, h => by
    have := Each.get he.2 (j := j) (by simpa using h)
    rwa [show i + 1 + j = i + (j + 1) by omega] at this

theorem inOrder_get : ∀ {l : List Oper} {i j : Nat} {o : Oper}, inOrder i l = true → l[j]? = some o → ∀ e ∈ o.after, Region.binds .any e = true → e.on < i + j
  | [], _, _, _, _, h => by simp at h
  | a :: r, i, 0, o, he, h => by
    simp at h; subst h
    unfold inOrder at he
    simp only [Bool.and_eq_true, Array.all_eq_true_iff_forall_mem, Bool.or_eq_true, Bool.not_eq_true', Nat.blt_eq] at he
    intro e h1 h2
    rcases he.1 e h1 with h3 | h3
    · rw [h2] at h3; cases h3
    · omega
  | a :: r, i, j + 1, o, he, h => by
    unfold inOrder at he
    simp only [Bool.and_eq_true] at he
    intro e h1 h2
    have := inOrder_get he.2 (j := j) (by simpa using h) e h1 h2
    omega

/-- What an operation does once those that it waits for are done. -/
structure Step1 (P : Program) (ops : Array Oper) (Q : Exit → Act → World → Prop) (Ps : Nat → Value → World → Prop) (D : Nat → Nat) (a0 : Act) (S : List Nat) (w0 : World) (i : Nat) (o : Oper) : Prop where
  dst : o.dst = some (D i)
  guard : o.guard = none ∨ ∃ j b, o.guard = some (j, b) ∧ waits o j = true ∧ (ops[j]?).bind (·.dst) = some (D j) ∧ ∀ v w, Ps (D j) v w → v = .bool b
  go : ∀ a w, (∀ j, waits o j = true → Ps (D j) (sl a (D j)) w) → Fr a0 S a → Only [] w0 w → o.wp P a w (fun a' w' => ∃ v, a' = a.put (some (D i)) v ∧ Ps (D i) v w' ∧ Only [] w w') Q

theorem wp_region_spec {P : Program} {ops : Array Oper} {Q : Exit → Act → World → Prop} {id : Nat} {a0 : Act} {w0 : World} (hm : P.follows .mixedOrders = true)
    (Ps : Nat → Value → World → Prop) (D : Nat → Nat) (S : List Nat)
    (keep : ∀ d v w w', Ps d v w → Only [] w w' → Ps d v w')
    (hord : inOrder 0 ops.toList = true) (hD : ∀ i, i < ops.size → D i ∈ S ∧ D i < a0.tmps.size) (hI : ∀ i j, i < ops.size → j < ops.size → D i = D j → i = j)
    (hs : Each (Step1 P ops Q Ps D a0 S w0.drew) 0 ops.toList)
    (hd : ∀ a w, (∀ i, i < ops.size → Ps (D i) (sl a (D i)) w) → Fr a0 S a → Only [] w0.drew w → Q .normal a w) : (Code.region id ops true).wp P Q a0 w0 := by
  refine wp_region_inv hm (fun l a w => (∀ i, i < ops.size → bit l i = true → Ps (D i) (sl a (D i)) w) ∧ Fr a0 S a ∧ Only [] w0.drew w ∧ l.size = ops.size) ?_ ?_ ?_
  · rintro l a w i ⟨hP, hF, hO, hl⟩ hr
    obtain ⟨hb, o, ho, hdep⟩ := mem_ready.1 hr
    have hi : i < ops.size := (Array.getElem?_eq_some_iff.1 ho).1
    have ho' : ops.toList[i]? = some o := by simpa using ho
    have st := hs.get ho'
    rw [Nat.zero_add] at st
    have hbit : bit l i = false := hb
    have hdeps : ∀ j, waits o j = true → Ps (D j) (sl a (D j)) w := by
      intro j hj
      unfold waits at hj
      rw [List.any_eq_true] at hj
      obtain ⟨e, he, h2⟩ := hj
      replace he : e ∈ o.after := by simpa using he
      simp only [Bool.and_eq_true, beq_iff_eq] at h2
      obtain ⟨h3, rfl⟩ := h2
      have hlt := inOrder_get hord ho' e he h3
      refine hP _ (by omega) ?_
      have := hdep e he h3
      unfold bit
      have hsz : e.on < l.size := by omega
      simp [hsz] at this ⊢
      exact this
    have hwant : Region.wanted o (yielded ops a.tmps) = true := by
      unfold Region.wanted
      rcases st.guard with h | ⟨j, b, h, hj, hdj, hv⟩
      · rw [h]
      · rw [h]
        simp only
        have hj2 := hdeps j hj
        have hvj := hv _ _ hj2
        have hjs : j < ops.size := by
          rcases Nat.lt_or_ge j ops.size with h | h
          · exact h
          · rw [Array.getElem?_eq_none h] at hdj; cases hdj
        have hdl : D j < a.tmps.size := by rw [hF.size]; exact (hD j hjs).2
        have : a.tmps[D j]? = some (.bool b) := by
          unfold sl at hvj
          simp [hdl] at hvj
          simp [hdl, hvj]
        unfold yielded
        rw [hdj]
        simp [this]
    unfold wpOp
    simp only [ho]
    rw [if_pos hwant]
    left
    refine Oper.wp_mono ?_ (st.go a w hdeps hF hO)
    rintro a' w' ⟨v, rfl, hv, hX⟩
    have hdl : D i < a.tmps.size := by rw [hF.size]; exact (hD i hi).2
    refine ⟨fun j hj hbj => ?_, hF.put (hD i hi).1 (hD i hi).2 v, hO.trans hX, by simpa using hl⟩
    rw [sl_put _ hdl]
    by_cases hji : D j = D i
    · rw [if_pos hji, hji]; exact hv
    · rw [if_neg hji]
      rw [bit_set l i j hbit] at hbj
      rw [if_neg (fun e => hji (by rw [e]))] at hbj
      exact keep _ _ _ _ (hP j hj hbj) hX
  · rintro l a w ⟨hP, hF, hO, hl⟩ hr
    have hall : ∀ k i, i < ops.size → i ≤ k → bit l i = true := by
      intro k
      induction k with
      | zero =>
        intro i hi hik
        cases hb : bit l i with
        | true => rfl
        | false =>
          have : i ∈ Region.ready .any ops l := by
            refine mem_ready.2 ⟨hb, ops[i], by simp [hi], fun e he h => ?_⟩
            have := inOrder_get hord (j := i) (o := ops[i]) (by simp [hi]) e he h
            omega
          rw [hr] at this
          cases this
      | succ k ih =>
        intro i hi hik
        cases hb : bit l i with
        | true => rfl
        | false =>
          have : i ∈ Region.ready .any ops l := by
            refine mem_ready.2 ⟨hb, ops[i], by simp [hi], fun e he h => ?_⟩
            have hlt := inOrder_get hord (j := i) (o := ops[i]) (by simp [hi]) e he h
            have h2 := ih e.on (by omega) (by omega)
            unfold bit at h2
            have hsz : e.on < l.size := by omega
            simp [hsz] at h2 ⊢
            exact h2
          rw [hr] at this
          cases this
    exact hd a w (fun i hi => hP i hi (hall i i hi (Nat.le_refl _))) hF hO
  · refine ⟨fun i hi hb => ?_, Fr.refl _ _, Only.refl _ _, by simp⟩
    unfold bit at hb
    simp [hi] at hb

theorem s_val {P : Program} {o : Oper} {a : Act} {w : World} {K : Act → World → Prop} {Q : Exit → Act → World → Prop} {v : Value} (h : (execOp a.eval o).run P w = .ok (.value v) w) (k : K (a.put o.dst v) w) : o.wp P a w K Q := by
  unfold Oper.wp
  rw [h]
  exact k

theorem s_call {P : Program} {o : Oper} {a : Act} {w : World} {K : Act → World → Prop} {Q : Exit → Act → World → Prop} {f : FuncId} {args : Array Value} (h : (execOp a.eval o).run P w = .ok (.enter f args) w) (k : Calls P f args w fun e w' => ∃ v, e = .returned v ∧ K (a.put o.dst v) w') : o.wp P a w K Q := by
  unfold Oper.wp
  rw [h]
  refine k.mono ?_
  rintro e w' ⟨v, rfl, hk⟩
  exact hk

section
variable {P : Program} {o : Oper} {ev : Operand → Value} {w : World}
theorem e_move {x : Operand} {v : Value} (ho : o.op = .move x) (h : ev x = v) : (execOp ev o).run P w = .ok (.value v) w := by
  unfold execOp; simp only [ho, h]; rfl
theorem e_load {t : TypeId} {x : Operand} {u v : Value} (ho : o.op = .load t x) (h : ev x = u) (hr : (Instr.loadAt t u).run P w = .ok v w) : (execOp ev o).run P w = .ok (.value v) w := by
  unfold execOp; simp only [ho, h, Sem.run_bind, Sem.run_pure, Result.andThen_ok, hr]
theorem e_field {t : TypeId} {x : Operand} {f : Nat} {u v : Value} (ho : o.op = .fieldAddr t x f) (h : ev x = u) (hr : (Instr.fieldAt t u f).run P w = .ok v w) : (execOp ev o).run P w = .ok (.value v) w := by
  unfold execOp; simp only [ho, h, Sem.run_bind, Sem.run_pure, Result.andThen_ok, hr]
theorem e_index {t : TypeId} {x y : Operand} {u z v : Value} (ho : o.op = .indexAddr t x y) (h : ev x = u) (h2 : ev y = z) (hr : (Instr.indexAt t u z).run P w = .ok v w) : (execOp ev o).run P w = .ok (.value v) w := by
  unfold execOp; simp only [ho, h, h2, Sem.run_bind, Sem.run_pure, Result.andThen_ok, hr]
theorem e_bin {b : BinOp} {t y' : TypeId} {x y : Operand} {u z v : Value} (ho : o.op = .binOp b t x y y') (h : ev x = u) (h2 : ev y = z) (hr : (do eqGuard b t x y u z; binOp b t u z : Sem Value).run P w = .ok v w) : (execOp ev o).run P w = .ok (.value v) w := by
  unfold execOp; simp only [ho, h, h2]; rw [Sem.run_bind, hr]; rfl
theorem e_pick_f {c x y : Operand} {v : Value} (ho : o.op = .pick c x y) (h : ev c = .bool false) (h2 : ev y = v) : (execOp ev o).run P w = .ok (.value v) w := by
  unfold execOp; simp only [ho, h, h2]; rfl
theorem e_pick_t {c x y : Operand} {v : Value} (ho : o.op = .pick c x y) (h : ev c = .bool true) (h2 : ev x = v) : (execOp ev o).run P w = .ok (.value v) w := by
  unfold execOp; simp only [ho, h, h2]; rfl
end

/-- What stays true while old memory is kept. -/
def St (p : Value → World → Prop) : Prop := ∀ v w w', p v w → Only [] w w' → p v w'
def AllSt : List (Value → World → Prop) → Prop
  | [] => True
  | p :: r => St p ∧ AllSt r

theorem st_eq (c : Value) : St (fun v _ => v = c) := fun _ _ _ h _ => h

theorem st_getD {l : List (Value → World → Prop)} {b : Nat} (h : AllSt l) : ∀ (d : Nat) (v : Value) (w w' : World), (l.getD (d - b) (fun _ _ => True)) v w → Only [] w w' → (l.getD (d - b) (fun _ _ => True)) v w' := by
  intro d
  generalize d - b = k
  induction l generalizing k with
  | nil => intro v w w' _ _; simp
  | cons p r ih =>
    cases k with
    | zero => intro v w w' h1 o; simp only [List.getD_cons_zero] at h1 ⊢; exact h.1 v w w' h1 o
    | succ k => intro v w w' h1 o; simp only [List.getD_cons_succ] at h1 ⊢; exact ih h.2 k v w w' h1 o

theorem ev_tmp (a : Act) (s : Nat) : a.eval (.tmp s) = sl a s := rfl

end Go.Proofs.Ytacegkjobfeiiaa

