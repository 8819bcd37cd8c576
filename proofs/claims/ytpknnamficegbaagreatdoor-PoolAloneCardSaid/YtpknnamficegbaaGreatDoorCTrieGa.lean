/- A map[int]bool that is used as a set: what is told of it, looked up, put, deleted. Conditions: each law names them. -/
import Derived.Maps.OwnSet
import Derived.Test.YtpknnamficegbaaGreatDoorCWord
set_option linter.unusedVariables false
set_option linter.unusedSimpArgs false
set_option linter.unusedSectionVars false
set_option linter.unnecessarySimpa false
namespace Go.Proofs.YtpknnamficegbaaGreatDoor
open Go.RowKit
open Go.Maps (Keyed IsMap Tidy)

theorem tyInt : Tryz.prog.underlying 3 = some (.int .i64) := by kernel_rfl
theorem tyBool : Tryz.prog.underlying 4 = some .bool := by kernel_rfl
theorem tySet : Tryz.prog.underlying 182 = some (.map 3 4) := by kernel_rfl
theorem keySet : Keyed Tryz.prog 3 := Maps.int_keyed tyInt
theorem zeroSet (w : World) : (zeroValue 4).run Tryz.prog w = .ok (.bool false) w := by kernel_rfl

abbrev DSet := DataW Unit

/-- Block b is a set of the numbers in L (each once), of at most n entries. -/
def MSet (w : World) (b n : Nat) (L : List Int) : Prop :=
  ∃ D : DSet, w.ownsMap Tryz.prog 3 (plainElem Tryz.prog 4) b n D ∧ (∀ k, D.atKey (.int .i64 k) (.lit (.bool false)) = .lit (.bool (decide (k ∈ L)))) ∧ (∀ k, Maps.has D (.int .i64 k) = decide (k ∈ L)) ∧ Maps.size D = L.length

theorem MSet.only {X : List Nat} {w w' : World} {b n : Nat} {L : List Int} (h : MSet w b n L) (o : Only X w w') (hb : b ∉ X) : MSet w' b n L := by
  obtain ⟨D, h1, h2⟩ := h
  have hl := h1.lt
  obtain ⟨es, clock, e1, e2⟩ := h1
  exact ⟨D, ⟨es, clock, by rw [o.at hl hb]; exact e1, e2⟩, h2⟩

theorem MSet.lt {w : World} {b n : Nat} {L : List Int} (h : MSet w b n L) : b < w.heap.size := by obtain ⟨D, h1, _⟩ := h; exact h1.lt

theorem MSet.mono {w : World} {b n m : Nat} {L : List Int} (h : MSet w b n L) (hm : n ≤ m) : MSet w b m L := by obtain ⟨D, h1, h2⟩ := h; exact ⟨D, h1.mono hm, h2⟩

theorem MSet.made (w : World) : MSet (w.alloc (.map #[] 0)) w.heap.size 0 [] :=
  ⟨.map [], World.ownsMap_made w _ _ _, fun k => by simp [DataW.atKey], fun k => by simp [Maps.has], rfl⟩

theorem MSet.congr {w : World} {b n : Nat} {L M : List Int} (h : MSet w b n L) (hm : ∀ k, k ∈ L ↔ k ∈ M) (hl : L.length = M.length) : MSet w b n M := by
  obtain ⟨D, h1, h2, h3, h4⟩ := h
  exact ⟨D, h1, fun k => by rw [h2]; simp [hm], fun k => by rw [h3]; simp [hm], by rw [h4, hl]⟩

theorem keyInt {k : Int} (hk : -9223372036854775808 ≤ k ∧ k ≤ 9223372036854775807) : keyOf Tryz.prog 3 (.int .i64 k) = some (.int .i64 k) :=
  Maps.keyOf_int_mk tyInt (by
    have h1 : IntKind.i64.min = -9223372036854775808 := by decide
    have h2 : IntKind.i64.max = 9223372036854775807 := by decide
    simp only [Lit.wf, h1, h2]; simp; omega)

theorem MSet.look {w : World} {b n : Nat} {L : List Int} (h : MSet w b n L) {k : Int} (hk : -9223372036854775808 ≤ k ∧ k ≤ 9223372036854775807) {x : Bool} (hx : decide (k ∈ L) = x) : (Instr.lookup 182 (.map (some b)) (.int .i64 k) false).run Tryz.prog w = .ok (.bool x) w := by
  obtain ⟨D, h1, h2, _⟩ := h
  obtain ⟨v, ps, hrun, hv⟩ := h1.lookup keySet tySet (zeroSet w) (plainElem_bool tyBool false) (keyInt hk)
  rw [h2 k, hx] at hv
  unfold plainElem at hv
  rw [tyBool] at hv
  cases v <;> simp at hv
  rw [hrun, hv.1]

theorem MSet.put {w : World} {b n : Nat} {L : List Int} (h : MSet w b n L) {k : Int} (hk : -9223372036854775808 ≤ k ∧ k ≤ 9223372036854775807) (hn : n < 1000000) (hL : k ∉ L) : ∃ w', (Instr.mapUpdate 182 (.map (some b)) (.int .i64 k) (.bool true)).run Tryz.prog w = .ok () w' ∧ MSet w' b (n + 1) (k :: L) ∧ Only [b] w w' := by
  obtain ⟨D, h1, h2, h3, h4⟩ := h
  obtain ⟨w', hrun, ho, hg⟩ := h1.update keySet tySet (by unfold maxLen; omega) (keyInt hk) (plainElem_bool tyBool true)
  have hm := h1.isMap
  refine ⟨w', hrun, ⟨_, ho, fun q => ?_, fun q => ?_, ?_⟩, Only.of_grown hg (by simp)⟩
  · by_cases e : q = k
    · subst e
      rw [Maps.atKey_put_same hm (show WideAt.IsKeyLit (.int .i64 q) from trivial)]; simp
    · rw [Maps.atKey_put_other (by simpa using e), h2]; simp [e]
  · by_cases e : q = k
    · subst e
      rw [Maps.has_put_same hm (show WideAt.IsKeyLit (.int .i64 q) from trivial)]; simp
    · rw [Maps.has_put_other (by simpa using e), h3]; simp [e]
  · rw [Maps.size_put (h1.tidy keySet), h3, h4]
    simp [hL]

theorem MSet.del {w : World} {b n : Nat} {L M : List Int} (h : MSet w b n L) {k : Int} (hk : -9223372036854775808 ≤ k ∧ k ≤ 9223372036854775807) (hL : L.Perm (k :: M)) (hM : k ∉ M) : ∃ w', (∀ ty, (Builtin.delete_ #[182, 3] ty #[.map (some b), .int .i64 k]).run Tryz.prog w = .ok (.tuple #[]) w') ∧ MSet w' b n M ∧ Only [b] w w' := by
  obtain ⟨D, h1, h2, h3, h4⟩ := h
  obtain ⟨w', hrun, ho, hg⟩ := h1.drop keySet tySet (keyInt hk) 0
  have hmem : ∀ q, q ∈ L ↔ q = k ∨ q ∈ M := fun q => by rw [hL.mem_iff]; simp
  refine ⟨w', fun ty => hrun, ⟨_, ho, fun q => ?_, fun q => ?_, ?_⟩, Only.of_grown hg.grown (by simp)⟩
  · by_cases e : q = k
    · subst e
      rw [Maps.atKey_del_same]; simp [hM]
    · rw [Maps.atKey_del_other (by simpa using e), h2]; simp [hmem, e]
  · by_cases e : q = k
    · subst e
      rw [Maps.has_del_same]; simp [hM]
    · rw [Maps.has_del_other (by simpa using e), h3]; simp [hmem, e]
  · have := Maps.size_del (k := .int .i64 k) (h1.tidy keySet)
    rw [h3, h4, hL.length_eq] at this
    have hk2 : decide (k ∈ L) = true := by simp [hmem]
    rw [hk2] at this
    simp at this
    omega

theorem MSet.len {w : World} {b n : Nat} {L : List Int} (h : MSet w b n L) {m : Nat} (hm : L.length = m) (ty : TypeId) : (Builtin.len_ #[182] ty #[.map (some b)]).run Tryz.prog w = .ok (.int .i64 (m : Nat)) w := by
  obtain ⟨D, h1, h2, h3, h4⟩ := h
  rw [h1.len tySet ty, h4, hm]

end Go.Proofs.YtpknnamficegbaaGreatDoor

