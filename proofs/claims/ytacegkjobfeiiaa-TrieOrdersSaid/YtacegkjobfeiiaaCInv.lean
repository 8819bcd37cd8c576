/- A region that draws its order, walked by an invariant: what holds when these operations have been done and those have not, whatever the order. Laws without a condition of their own. -/
import Derived.OrdersHeld
import Derived.Test.YtacegkjobfeiiaaCOwn
set_option linter.unusedVariables false
set_option linter.unusedSimpArgs false
set_option linter.unusedSectionVars false
set_option linter.unnecessarySimpa false
namespace Go.Proofs.Ytacegkjobfeiiaa
open Go.RowKit

/-- Has operation number i been done? (Beyond the end: yes.) -/
def bit (l : Array Bool) (i : Nat) : Bool := l.getD i true

theorem bit_set (l : Array Bool) (i j : Nat) (hi : bit l i = false) : bit (l.setIfInBounds i true) j = if j = i then true else bit l j := by
  unfold bit at *
  by_cases h : j = i
  · subst h
    rw [if_pos rfl]
    simp
  · rw [if_neg h, getD_set_ne true (fun e => h e.symm)]

def left (l : Array Bool) : Nat := l.toList.count false

theorem count_set : ∀ {m : List Bool} {i : Nat}, m[i]? = some false → (m.set i true).count false + 1 = m.count false
  | [], i, h => by simp at h
  | b :: m, 0, h => by simp at h; subst h; simp
  | b :: m, i + 1, h => by
    have := count_set (m := m) (i := i) (by simpa using h)
    rw [List.set_cons_succ, List.count_cons, List.count_cons]
    omega

theorem left_set {l : Array Bool} {i : Nat} (h : bit l i = false) : left (l.setIfInBounds i true) + 1 = left l := by
  have hi : i < l.size := by
    rcases Nat.lt_or_ge i l.size with h1 | h1
    · exact h1
    · unfold bit at h; simp [Array.getElem?_eq_none h1] at h
  have hv : l.toList[i]? = some false := by
    unfold bit at h
    simp [hi] at h ⊢
    exact h
  unfold left
  rw [Array.toList_setIfInBounds]
  exact count_set hv

theorem wpAny_inv {P : Program} {md : Region.Mode} {ops : Array Oper} {Q : Exit → Act → World → Prop} (J : Array Bool → Act → World → Prop)
    (hs : ∀ l a w i, J l a w → i ∈ Region.ready md ops l → wpOp P ops Q i (J (l.setIfInBounds i true)) a w)
    (hd : ∀ l a w, J l a w → Region.ready md ops l = [] → Q .normal a w) :
    ∀ (fuel : Nat) (l : Array Bool) (a : Act) (w : World), left l ≤ fuel → J l a w → wpAny P md ops Q fuel l a w
  | 0, l, a, w, hf, hJ => by
    have hr : Region.ready md ops l = [] := by
      rw [List.eq_nil_iff_forall_not_mem]
      intro i hi
      have h0 : bit l i = false := (mem_ready.1 hi).1
      have := left_set h0
      omega
    exact ⟨hr, hd l a w hJ hr⟩
  | fuel + 1, l, a, w, hf, hJ => by
    refine ⟨fun hr => hd l a w hJ hr, fun i hi => ?_⟩
    have h0 : bit l i = false := (mem_ready.1 hi).1
    have h1 := left_set h0
    exact wpOp_mono (fun a' w' h' => wpAny_inv J hs hd fuel _ a' w' (by omega) h') (hs l a w i hJ hi)

theorem left_start (n : Nat) : left (Array.replicate n false) = n := by simp [left]

/-- THE BEGINNING. -/
theorem wp_region_inv {P : Program} {ops : Array Oper} {Q : Exit → Act → World → Prop} {id : Nat} {a : Act} {w : World} (hm : P.follows .mixedOrders = true) (J : Array Bool → Act → World → Prop)
    (hs : ∀ l a w i, J l a w → i ∈ Region.ready .any ops l → wpOp P ops Q i (J (l.setIfInBounds i true)) a w)
    (hd : ∀ l a w, J l a w → Region.ready .any ops l = [] → Q .normal a w)
    (h0 : J (Array.replicate ops.size false) a w.drew) : (Code.region id ops true).wp P Q a w :=
  wp_region_any hm (wpAny_inv J hs hd _ _ _ _ (by rw [left_start]; exact Nat.le_refl _) h0)

/-- Slot j of a frame. -/
def sl (a : Act) (j : Nat) : Value := a.tmps.getD j undef

theorem sl_put {a : Act} {d : Nat} {v : Value} (j : Nat) (hd : d < a.tmps.size) : sl (a.put (some d) v) j = if j = d then v else sl a j := by
  unfold sl Act.put
  by_cases h : j = d
  · subst h; simp [hd]
  · rw [if_neg h]
    simp [Array.getElem?_setIfInBounds_ne (fun e => h e.symm)]

/-- A frame that is as a0 was, but for the slots S. -/
structure Fr (a0 : Act) (S : List Nat) (a : Act) : Prop where
  size : a.tmps.size = a0.tmps.size
  same : ∀ j, j ∉ S → sl a j = sl a0 j
  defers : a.defers = a0.defers

theorem Fr.refl (a : Act) (S : List Nat) : Fr a S a := ⟨rfl, fun _ _ => rfl, rfl⟩

theorem Fr.put {a0 a : Act} {S : List Nat} (h : Fr a0 S a) {d : Nat} (hd : d ∈ S) (hs : d < a0.tmps.size) (v : Value) : Fr a0 S (a.put (some d) v) := by
  refine ⟨by simp [Act.put, h.size], fun j hj => ?_, h.defers⟩
  rw [sl_put j (by rw [h.size]; exact hs), if_neg (fun e : j = d => hj (by rw [e]; exact hd))]
  exact h.same j hj

theorem foldl_sets (f : Nat → Value) : ∀ (S : List Nat) (t : Array Value), (S.foldl (fun t j => t.setIfInBounds j (f j)) t).size = t.size ∧ ∀ i, (S.foldl (fun t j => t.setIfInBounds j (f j)) t)[i]? = if i ∈ S ∧ i < t.size then some (f i) else t[i]?
  | [], t => ⟨rfl, fun i => by simp⟩
  | j :: S, t => by
    obtain ⟨h1, h2⟩ := foldl_sets f S (t.setIfInBounds j (f j))
    refine ⟨by rw [List.foldl_cons, h1]; simp, fun i => ?_⟩
    rw [List.foldl_cons, h2 i]
    simp only [Array.size_setIfInBounds, List.mem_cons]
    by_cases hi : i ∈ S
    · by_cases hl : i < t.size
      · simp [hi, hl]
      · simp [hi, hl]
    · by_cases hij : i = j
      · subst hij
        by_cases hl : i < t.size
        · simp [hi, hl]
        · simp [hi, hl]
      · simp [hi, hij, Array.getElem?_setIfInBounds_ne (fun e => hij e.symm)]

theorem Fr.eq {a0 a : Act} {S : List Nat} (h : Fr a0 S a) : a = ⟨S.foldl (fun t j => t.setIfInBounds j (sl a j)) a0.tmps, a0.defers⟩ := by
  obtain ⟨h1, h2⟩ := foldl_sets (sl a) S a0.tmps
  have e : a.tmps = S.foldl (fun t j => t.setIfInBounds j (sl a j)) a0.tmps := by
    apply Array.ext_getElem?
    intro i
    rw [h2 i]
    by_cases hl : i < a0.tmps.size
    · have hl2 : i < a.tmps.size := by rw [h.size]; exact hl
      by_cases hi : i ∈ S
      · rw [if_pos ⟨hi, hl⟩]
        simp [sl, hl2]
      · rw [if_neg (fun hh => hi hh.1)]
        have := h.same i hi
        simp [sl, hl, hl2] at this
        simp [hl, hl2, this]
    · rw [if_neg (fun hh => hl hh.2), Array.getElem?_eq_none (by rw [h.size]; omega), Array.getElem?_eq_none (by omega)]
  cases a with
  | mk t d =>
    have hd : d = a0.defers := h.defers
    simp only at e
    rw [hd]
    congr 1

theorem wpOp_of {P : Program} {ops : Array Oper} {Q : Exit → Act → World → Prop} {i : Nat} {o : Oper} {K : Act → World → Prop} {a : Act} {w : World} (ho : ops[i]? = some o) (hg : o.guard = none) (h : o.wp P a w K Q) : wpOp P ops Q i K a w := by
  have hw : Region.wanted o (yielded ops a.tmps) = true := by simp [Region.wanted, hg]
  unfold wpOp
  simp only [ho]
  rw [if_pos hw]
  exact Or.inl h

theorem wp_move {P : Program} {o : Oper} {Q : Exit → Act → World → Prop} {K : Act → World → Prop} {a : Act} {w : World} (s : Nat) (ho : o.op = .move (.tmp s)) (h : K (a.put o.dst (sl a s)) w) : o.wp P a w K Q := by
  unfold Oper.wp execOp
  simp only [ho]
  exact h

theorem wp_assign {P : Program} {o : Oper} {Q : Exit → Act → World → Prop} {K : Act → World → Prop} {a : Act} {w : World} (s : Nat) (ho : o.op = .assign (.tmp s)) (h : K (a.put o.dst (sl a s)) w) : o.wp P a w K Q := by
  unfold Oper.wp execOp
  simp only [ho]
  exact h

theorem wp_load {P : Program} {o : Oper} {Q : Exit → Act → World → Prop} {K : Act → World → Prop} {a : Act} {w : World} (s : Nat) (t : TypeId) (u v : Value) (ho : o.op = .load t (.tmp s)) (hs : sl a s = u) (hr : (Instr.loadAt t u).run P w = .ok v w) (h : K (a.put o.dst v) w) : o.wp P a w K Q := by
  have e : a.eval (.tmp s) = u := hs
  unfold Oper.wp execOp
  simp only [ho, e, Sem.run_bind, Sem.run_pure, Result.andThen_ok, hr, Oper.upon]
  exact h

theorem wp_build {P : Program} {o : Oper} {Q : Exit → Act → World → Prop} {K : Act → World → Prop} {a : Act} {w w' : World} (s : Nat) (t : TypeId) (v v' : Value) (ho : o.op = .buildSlice t 1 #[(0, .tmp s)]) (hs : sl a s = v) (hr : (Instr.buildSlice t 1 #[(0, v)]).run P w = .ok v' w') (h : K (a.put o.dst v') w') : o.wp P a w K Q := by
  have e : a.eval (.tmp s) = v := hs
  have e2 : Array.map (fun x : Nat × Operand => (x.fst, a.eval x.snd)) #[(0, Operand.tmp s)] = #[(0, v)] := by simp [e]
  unfold Oper.wp execOp
  simp only [ho, e2, Sem.run_bind, Sem.run_pure, Result.andThen_ok, hr, Oper.upon]
  exact h

theorem wp_store {P : Program} {o : Oper} {Q : Exit → Act → World → Prop} {K : Act → World → Prop} {a : Act} {w w' : World} (s x : Nat) (t : TypeId) (u v : Value) (ho : o.op = .store t (.tmp s) (.tmp x)) (hs : sl a s = u) (hx : sl a x = v) (hr : (Instr.storeAt t u v).run P w = .ok () w') (h : K (a.put o.dst undef) w') : o.wp P a w K Q := by
  have e : a.eval (.tmp s) = u := hs
  have e2 : a.eval (.tmp x) = v := hx
  unfold Oper.wp execOp
  simp only [ho, e, e2, Sem.run_bind, Sem.run_pure, Result.andThen_ok, hr, Oper.upon]
  exact h

end Go.Proofs.Ytacegkjobfeiiaa

