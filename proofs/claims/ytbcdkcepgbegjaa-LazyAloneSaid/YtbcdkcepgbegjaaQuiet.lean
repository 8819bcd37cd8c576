/- A drawn region that only reads, walked in the order of its text over a frame that is a variable: what is known of the frame is a list of slots and values. For large frames and large regions, where a frame that is written out costs the kernel too much. Laws without a condition of their own. -/
import Derived.Test.YtbcdkcepgbegjaaInv
import Derived.Deep.QuietTactic
namespace Go.Proofs.Ytbcdkcepgbegjaa
open Go.RowKit

def look : List (Nat × Value) → Nat → Option Value
  | [], _ => none
  | (i, v) :: F, s => cond (Nat.beq i s) (some v) (look F s)

def HoldsL (a : Act) : List (Nat × Value) → Prop
  | [] => True
  | p :: F => sl a p.1 = p.2 ∧ HoldsL a F

theorem holds_look {a : Act} {s : Nat} {v : Value} : ∀ {F : List (Nat × Value)}, HoldsL a F → look F s = some v → sl a s = v
  | [], _, h => by cases h
  | p :: F, h, hl => by
    unfold look at hl
    cases e : Nat.beq p.1 s with
    | true =>
      rw [e] at hl
      have : p.1 = s := Nat.eq_of_beq_eq_true e
      cases hl
      rw [← this]; exact h.1
    | false => rw [e] at hl; exact holds_look h.2 hl

/-- A frame as the written one was, but for the slots lo .. hi, of which F tells. -/
structure QK (L0 : List Value) (df : List Deferred) (lo hi : Nat) (F : List (Nat × Value)) (a : Act) : Prop where
  size : a.tmps.size = L0.length
  same : ∀ j, j < lo ∨ hi < j → sl a j = L0.getD j undef
  df : a.defers = df
  facts : HoldsL a F

theorem holds_put {a : Act} {d : Nat} {v : Value} (hd : d < a.tmps.size) : ∀ {F : List (Nat × Value)}, HoldsL a F → look F d = none → HoldsL (a.put (some d) v) F
  | [], _, _ => trivial
  | p :: F, h, hl => by
    unfold look at hl
    cases e : Nat.beq p.1 d with
    | true => rw [e] at hl; cases hl
    | false =>
      rw [e] at hl
      refine ⟨?_, holds_put hd h.2 hl⟩
      rw [sl_put p.1 hd, if_neg (fun h' => by subst h'; simp at e)]
      exact h.1

section
variable {L0 : List Value} {df : List Deferred} {lo hi : Nat} {F : List (Nat × Value)} {a : Act} {P : Program} {ops : Array Oper} {C : World → Prop} {Q : Act → Prop} {o : Oper} {rest : List Oper}

theorem QK.put {d : Nat} {v : Value} (h : QK L0 df lo hi F a) (hb : hi < L0.length) (hd : (Nat.ble lo d && Nat.ble d hi && (look F d).isNone) = true) : QK L0 df lo hi ((d, v) :: F) (a.put (some d) v) := by
  simp only [Bool.and_eq_true, Nat.ble_eq, Option.isNone_iff_eq_none] at hd
  obtain ⟨⟨h1, h2⟩, h3⟩ := hd
  have hs : d < a.tmps.size := by rw [h.size]; omega
  refine ⟨by simp [Act.put, h.size], fun j hj => ?_, h.df, ?_, holds_put hs h.facts h3⟩
  · rw [sl_put j hs, if_neg (by omega)]; exact h.same j hj
  · rw [sl_put d hs, if_pos rfl]

theorem QK.ev {s : Nat} {v : Value} (h : QK L0 df lo hi F a) (hl : look F s = some v) : a.eval (.tmp s) = v := holds_look h.facts hl

/-- The guard, read off the list. -/
def guardOk (ops : Array Oper) (F : List (Nat × Value)) (o : Oper) : Bool :=
  match o.guard with
  | none => true
  | some (j, b) =>
    match (ops[j]?).bind (·.dst) with
    | none => false
    | some d =>
      match look F d with
      | some (.bool c) => c == b
      | _ => false

theorem wanted_of (h : QK L0 df lo hi F a) (hin : ∀ d v, look F d = some v → d < L0.length) (hg : guardOk ops F o = true) : Region.wanted o (yielded ops a.tmps) = true := by
  unfold guardOk at hg
  unfold Region.wanted
  cases e : o.guard with
  | none => rfl
  | some p =>
    obtain ⟨j, b⟩ := p
    rw [e] at hg
    simp only at hg ⊢
    cases e2 : (ops[j]?).bind (·.dst) with
    | none => rw [e2] at hg; cases hg
    | some d =>
      rw [e2] at hg
      simp only at hg
      cases e3 : look F d with
      | none => rw [e3] at hg; cases hg
      | some v =>
        rw [e3] at hg
        have hv := holds_look h.facts e3
        have hd : d < a.tmps.size := by rw [h.size]; exact hin d v e3
        cases v <;> try (simp at hg; done)
        rename_i c
        have hcb : c = b := by simpa using hg
        subst hcb
        have : a.tmps[d]? = some (.bool c) := by
          have h2 : sl a d = a.tmps[d] := by unfold sl; simp [hd]
          rw [h2] at hv
          rw [← hv]; simp [hd]
        unfold yielded
        rw [e2]
        simp [this]

/-- Slots of the list lie in the frame. -/
def inB (n : Nat) : List (Nat × Value) → Bool
  | [] => true
  | p :: F => Nat.blt p.1 n && inB n F

theorem inB_look {n d : Nat} {v : Value} : ∀ {F : List (Nat × Value)}, inB n F = true → look F d = some v → d < n
  | [], _, h => by cases h
  | p :: F, hi, hl => by
    unfold inB at hi
    unfold look at hl
    simp only [Bool.and_eq_true, Nat.blt_eq] at hi
    cases e : Nat.beq p.1 d with
    | true => have := Nat.eq_of_beq_eq_true e; omega
    | false => rw [e] at hl; exact inB_look hi.2 hl

/-- What the walk carries. -/
structure QW (L0 : List Value) (df : List Deferred) (lo hi : Nat) (F : List (Nat × Value)) (a : Act) : Prop where
  k : QK L0 df lo hi F a
  b : hi < L0.length
  i : inB L0.length F = true

theorem q_val {d : Nat} {v : Value} (h : QW L0 df lo hi F a) (hw : guardOk ops F o = true) (hd : o.dst = some d) (hn : (Nat.ble lo d && Nat.ble d hi && (look F d).isNone) = true)
    (hq : ∀ w, C w → o.quietAt P a C w v) (k : ∀ a', QW L0 df lo hi ((d, v) :: F) a' → wpQuiet P ops C Q rest a') : wpQuiet P ops C Q (o :: rest) a := by
  have hwant := wanted_of h.k (fun d v => inB_look h.i) hw
  unfold wpQuiet
  rw [if_pos hwant]
  refine ⟨v, hq, ?_⟩
  rw [hd]
  refine k _ ⟨h.k.put h.b hn, h.b, ?_⟩
  unfold inB
  simp only [Bool.and_eq_true, Nat.ble_eq, Option.isNone_iff_eq_none] at hn
  have := h.b
  simp only [Bool.and_eq_true, Nat.blt_eq]
  exact ⟨by omega, h.i⟩

theorem q_run {d : Nat} {v : Value} (h : QW L0 df lo hi F a) (hw : guardOk ops F o = true) (hd : o.dst = some d) (hn : (Nat.ble lo d && Nat.ble d hi && (look F d).isNone) = true)
    (hq : ∀ w, C w → (execOp a.eval o).run P w = .ok (.value v) w) (k : ∀ a', QW L0 df lo hi ((d, v) :: F) a' → wpQuiet P ops C Q rest a') : wpQuiet P ops C Q (o :: rest) a :=
  q_val h hw hd hn (fun w hw => by unfold Oper.quietAt; rw [hq w hw]; exact ⟨rfl, rfl⟩) k

theorem q_move {d s : Nat} {v : Value} (h : QW L0 df lo hi F a) (hw : guardOk ops F o = true) (hd : o.dst = some d) (hn : (Nat.ble lo d && Nat.ble d hi && (look F d).isNone) = true)
    (ho : o.op = .move (.tmp s)) (hs : look F s = some v) (k : ∀ a', QW L0 df lo hi ((d, v) :: F) a' → wpQuiet P ops C Q rest a') : wpQuiet P ops C Q (o :: rest) a :=
  q_run h hw hd hn (fun w _ => by unfold execOp; simp only [ho]; rw [h.k.ev hs]; rfl) k

theorem q_load {d s : Nat} {t : TypeId} {u v : Value} (h : QW L0 df lo hi F a) (hw : guardOk ops F o = true) (hd : o.dst = some d) (hn : (Nat.ble lo d && Nat.ble d hi && (look F d).isNone) = true)
    (ho : o.op = .load t (.tmp s)) (hs : look F s = some u) (hr : ∀ w, C w → (Instr.loadAt t u).run P w = .ok v w) (k : ∀ a', QW L0 df lo hi ((d, v) :: F) a' → wpQuiet P ops C Q rest a') : wpQuiet P ops C Q (o :: rest) a :=
  q_run h hw hd hn (fun w hw => by unfold execOp; simp only [ho, h.k.ev hs, Sem.run_bind, Sem.run_pure, Result.andThen_ok, hr w hw]) k

theorem q_field {d s f : Nat} {t : TypeId} {u v : Value} (h : QW L0 df lo hi F a) (hw : guardOk ops F o = true) (hd : o.dst = some d) (hn : (Nat.ble lo d && Nat.ble d hi && (look F d).isNone) = true)
    (ho : o.op = .fieldAddr t (.tmp s) f) (hs : look F s = some u) (hr : ∀ w, C w → (Instr.fieldAt t u f).run P w = .ok v w) (k : ∀ a', QW L0 df lo hi ((d, v) :: F) a' → wpQuiet P ops C Q rest a') : wpQuiet P ops C Q (o :: rest) a :=
  q_run h hw hd hn (fun w hw => by unfold execOp; simp only [ho, h.k.ev hs, Sem.run_bind, Sem.run_pure, Result.andThen_ok, hr w hw]) k

theorem q_index {d s i : Nat} {t : TypeId} {u x v : Value} (h : QW L0 df lo hi F a) (hw : guardOk ops F o = true) (hd : o.dst = some d) (hn : (Nat.ble lo d && Nat.ble d hi && (look F d).isNone) = true)
    (ho : o.op = .indexAddr t (.tmp s) (.tmp i)) (hs : look F s = some u) (hx : look F i = some x) (hr : ∀ w, C w → (Instr.indexAt t u x).run P w = .ok v w) (k : ∀ a', QW L0 df lo hi ((d, v) :: F) a' → wpQuiet P ops C Q rest a') : wpQuiet P ops C Q (o :: rest) a :=
  q_run h hw hd hn (fun w hw => by unfold execOp; simp only [ho, h.k.ev hs, h.k.ev hx, Sem.run_bind, Sem.run_pure, Result.andThen_ok, hr w hw]) k

theorem q_nil {d s : Nat} {ad : Addr} (h : QW L0 df lo hi F a) (hw : guardOk ops F o = true) (hd : o.dst = some d) (hn : (Nat.ble lo d && Nat.ble d hi && (look F d).isNone) = true)
    (ho : o.op = .nilCheck (.tmp s)) (hs : look F s = some (.pointer (some ad))) (k : ∀ a', QW L0 df lo hi ((d, .pointer (some ad)) :: F) a' → wpQuiet P ops C Q rest a') : wpQuiet P ops C Q (o :: rest) a :=
  q_run h hw hd hn (fun w _ => by unfold execOp; simp only [ho, h.k.ev hs]; rfl) k

theorem q_bin {d s i : Nat} {b : BinOp} {t y : TypeId} {u x v : Value} (h : QW L0 df lo hi F a) (hw : guardOk ops F o = true) (hd : o.dst = some d) (hn : (Nat.ble lo d && Nat.ble d hi && (look F d).isNone) = true)
    (ho : o.op = .binOp b t (.tmp s) (.tmp i) y) (hs : look F s = some u) (hx : look F i = some x) (hr : ∀ w, C w → (do eqGuard b t (.tmp s) (.tmp i) u x; binOp b t u x : Sem Value).run P w = .ok v w) (k : ∀ a', QW L0 df lo hi ((d, v) :: F) a' → wpQuiet P ops C Q rest a') : wpQuiet P ops C Q (o :: rest) a :=
  q_run h hw hd hn (fun w hw => by unfold execOp; simp only [ho, h.k.ev hs, h.k.ev hx]; rw [Sem.run_bind, hr w hw]; rfl) k

theorem q_pick_f {d c s : Nat} {x : Operand} {v : Value} (h : QW L0 df lo hi F a) (hw : guardOk ops F o = true) (hd : o.dst = some d) (hn : (Nat.ble lo d && Nat.ble d hi && (look F d).isNone) = true)
    (ho : o.op = .pick (.tmp c) x (.tmp s)) (hc : look F c = some (.bool false)) (hs : look F s = some v) (k : ∀ a', QW L0 df lo hi ((d, v) :: F) a' → wpQuiet P ops C Q rest a') : wpQuiet P ops C Q (o :: rest) a :=
  q_run h hw hd hn (fun w _ => by unfold execOp; simp only [ho, h.k.ev hc, h.k.ev hs]; rfl) k

/-- A call: the operation asked enters a function. -/
theorem q_call {d : Nat} {f : FuncId} {args : Array Value} {v : Value} (h : QW L0 df lo hi F a) (hw : guardOk ops F o = true) (hd : o.dst = some d) (hn : (Nat.ble lo d && Nat.ble d hi && (look F d).isNone) = true)
    (hr : ∀ w, (execOp a.eval o).run P w = .ok (.enter f args) w) (hc : ∀ w, C w → Calls P f args w fun e w' => e = .returned v ∧ C w') (k : ∀ a', QW L0 df lo hi ((d, v) :: F) a' → wpQuiet P ops C Q rest a') : wpQuiet P ops C Q (o :: rest) a :=
  q_val h hw hd hn (fun w hw => by unfold Oper.quietAt; rw [hr w]; exact ⟨rfl, hc w hw⟩) k

/-- The end: a frame of which slots lo .. hi are unknown, written out. -/
def mix (lo hi : Nat) (f : Nat → Value) : Nat → List Value → List Value
  | _, [] => []
  | i, v :: l => cond (Nat.ble lo i && Nat.ble i hi) (f i) v :: mix lo hi f (i + 1) l

theorem mix_get (f : Nat → Value) : ∀ (l : List Value) (i j : Nat), (mix lo hi f i l)[j]? = (l[j]?).map fun v => if lo ≤ i + j ∧ i + j ≤ hi then f (i + j) else v
  | [], i, j => by simp [mix]
  | v :: l, i, 0 => by
    simp only [mix, List.getElem?_cons_zero, Option.map_some, Nat.add_zero]
    by_cases h : lo ≤ i ∧ i ≤ hi
    · rw [if_pos h, show (Nat.ble lo i && Nat.ble i hi) = true by simp [h.1, h.2]]; rfl
    · rw [if_neg h, show (Nat.ble lo i && Nat.ble i hi) = false by
        rw [Bool.eq_false_iff]; intro h'; simp only [Bool.and_eq_true, Nat.ble_eq] at h'; exact h h']; rfl
  | v :: l, i, j + 1 => by
    simp only [mix, List.getElem?_cons_succ]
    rw [mix_get f l (i + 1) j, show i + 1 + j = i + (j + 1) by omega]

theorem QK.eq (h : QK L0 df lo hi F a) : a = ⟨(mix lo hi (sl a) 0 L0).toArray, df⟩ := by
  have e : a.tmps = (mix lo hi (sl a) 0 L0).toArray := by
    apply Array.ext_getElem?
    intro j
    rw [show (mix lo hi (sl a) 0 L0).toArray[j]? = (mix lo hi (sl a) 0 L0)[j]? by simp, mix_get, Nat.zero_add]
    rcases Nat.lt_or_ge j L0.length with hj | hj
    · have hj2 : j < a.tmps.size := by rw [h.size]; exact hj
      have h2 : sl a j = a.tmps[j] := by unfold sl; simp [hj2]
      rw [List.getElem?_eq_getElem hj, Option.map_some]
      by_cases hr : lo ≤ j ∧ j ≤ hi
      · rw [if_pos hr, h2]; simp [hj2]
      · rw [if_neg hr]
        have h3 := h.same j (by omega)
        rw [h2] at h3
        simp [hj2, h3, hj]
    · rw [List.getElem?_eq_none hj, Option.map_none, Array.getElem?_eq_none (by rw [h.size]; exact hj)]
  have hd := h.df
  cases a with
  | mk t d =>
    simp only at e hd
    rw [hd]
    congr 1

theorem q_start (lo hi : Nat) (F : List (Nat × Value)) {l : List Oper} (h : HoldsL ⟨L0.toArray, df⟩ F) (hb : Nat.blt hi L0.length = true) (hi' : inB L0.length F = true) (k : ∀ a, QW L0 df lo hi F a → wpQuiet P ops C Q l a) : wpQuiet P ops C Q l ⟨L0.toArray, df⟩ :=
  k _ ⟨⟨by simp, fun j _ => by unfold sl; simp, rfl, h⟩, by simpa using hb, hi'⟩
end

end Go.Proofs.Ytbcdkcepgbegjaa
