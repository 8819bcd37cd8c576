/- For every row of pairs, every row of keys to drop and every number the call of TrieOrders returns true, and each argument reads behind the call as it read before. No condition of its own. -/
import Derived.Test.YtacegkjobfeiiaaRows
import Derived.WalkKit
import Derived.ProofKit
import Derived.OpenShut
import Derived.ChangeOld
import Derived.Below
import Derived.Deep.Slices
import Derived.Deep.Fields
import Derived.Test.YtacegkjobfeiiaaCTrieHd
set_option linter.unusedVariables false
set_option linter.unusedSimpArgs false
set_option linter.unusedSectionVars false
set_option linter.unnecessarySimpa false
namespace Go.Proofs.Ytacegkjobfeiiaa.trieOrders
open Go.ChangeShapes Go.WideShapes Go.ChangeAt Go.RowKit Go.Deep
set_option linter.unusedVariables false

theorem own : ownKnob Try.prog.godebug = none := by kernel_rfl
theorem laidOut : laidOutB Try.prog = true := by kernel_rfl

section
variable {H : Type} {enc : TypeId × Value → H} {P : Program} {w : World} {base : Nat} {spare : Nat → Bool} {held : Bool}
/-- A slice of structs of one-cell fields: each element's each field: its cell. -/
theorem rec_at {t e : TypeId} {fs : Array Field} {fuel : Nat} {cs : List Value} {x : DataW H × List MemPlace} (ht : P.underlying t = some (.slice e)) (he : P.underlying e = some (.struct fs))
    (hone : oneCellFields P fs = true) (hC : P.cellsOf e = fs.size) (h : DataW.trod enc P w base spare held fuel t cs = some x) :
    cs = [.slice none 0 0] ∨ ∃ (a : Addr) (len cap : Nat), cs = [.slice (some a) len cap] ∧
      ∀ i, i < len → ∀ (j : Nat) (f : Field), fs[j]? = some f → ∃ (v : Value) (y : DataW H × List MemPlace) (n : Nat), w.cell? (a.add (i * fs.size + j)) = some v ∧ DataW.trod enc P w base spare held n f.type [v] = some y := by
  rcases open_slice ht h with h0 | ⟨a, len, cap, m, n, D, Pl, hcs, _, hl, _, hmm, _, hi⟩
  · exact .inl h0.1
  · refine .inr ⟨a, len, cap, hcs, fun i hil j f hj => ?_⟩
    have him : i < m := by
      rw [hmm]
      split <;> omega
    obtain ⟨cs', hc, ht'⟩ := hi i him
    rw [hC] at hc
    obtain ⟨ys, n', _, hy, hlen, hyl, hf⟩ := DataW.trod_struct he ht'
    obtain ⟨_, hcl, hat⟩ := World.cells?_some hc
    obtain ⟨ho, hk⟩ := hone_of hone j f hj
    have hjl : j < fs.size := (Array.getElem?_eq_some_iff.1 hj).1
    have hcell := hat j hjl
    have hv : cs'[j]? = some (cs'[j]'(by omega)) := List.getElem?_eq_getElem (by omega)
    have h1 := hf j f hj
    rw [ho, hk, List.drop_eq_getElem_cons (show j < cs'.length by omega), List.take_succ_cons, List.take_zero] at h1
    have hys : ys[j]? = some (ys[j]'(by omega)) := List.getElem?_eq_getElem (by omega)
    refine ⟨_, _, n', ?_, h1.trans hys⟩
    rw [← Go.Deep.add_add, hcell, hv]

end

def IsPrs (w : World) (a : Option Addr) (len : Nat) : Prop := len = 0 ∨ ∃ (b o : Nat) (O : Nat → KV), a = some ⟨b, o, none⟩ ∧ PrsIn w b o len O

def IsKeys (w : World) (a : Option Addr) (len : Nat) : Prop := len = 0 ∨ ∃ (b o : Nat) (D : List Int), a = some ⟨b, o, none⟩ ∧ D.length = len ∧ KeysIn w b o D

section
variable {H : Type} {enc : TypeId × Value → H} {w : World} {base : Nat} {spare : Nat → Bool} {held : Bool}
theorem prs_of {fuel : Nat} {a : Option Addr} {len cap : Nat} {x : DataW H × List MemPlace} (h : DataW.trod enc Try.prog w base spare held fuel 31 [.slice a len cap] = some x) : IsPrs w a len := by
  by_cases h0 : len = 0
  · exact .inl h0
  right
  rcases rec_at Try.underlying31 Try.underlying56 (by kernel_rfl) (by kernel_rfl) h with hcs | ⟨ad, l, c, hcs, hi⟩
  · simp at hcs; omega
  · simp at hcs
    obtain ⟨rfl, rfl, rfl⟩ := hcs
    have h1 : ∀ i, i < len → ∃ p : KV, w.cell? (ad.add (i * 2)) = some (.int .i64 p.1) ∧ w.cell? (ad.add (i * 2 + 1)) = some (.int .i64 p.2) := fun i hil => by
      obtain ⟨v0, y0, n0, c0, t0⟩ := hi i hil 0 _ rfl
      obtain ⟨v1, y1, n1, c1, t1⟩ := hi i hil 1 _ rfl
      obtain ⟨z0, e0, _⟩ := DataW.trod_int Try.underlying3 t0
      obtain ⟨z1, e1, _⟩ := DataW.trod_int Try.underlying3 t1
      cases e0; cases e1
      exact ⟨(z0, z1), c0, c1⟩
    obtain ⟨f, hf⟩ := choose_lt h1
    have hsp : ad.spot = none := by
      have := World.cell?_spot (hf 0 (by omega)).1
      simpa [Addr.add] using this
    obtain ⟨b, o, sp⟩ := ad
    simp only at hsp
    subst hsp
    refine ⟨b, o, f, rfl, fun i hil => ?_⟩
    obtain ⟨h1, h2⟩ := hf i hil
    rw [Addr.add_lit] at h1 h2
    exact ⟨h1, h2⟩

theorem keys_of {fuel : Nat} {a : Option Addr} {len cap : Nat} {x : DataW H × List MemPlace} (h : DataW.trod enc Try.prog w base (fun _ => true) held fuel 36 [.slice a len cap] = some x) : IsKeys w a len := by
  by_cases h0 : len = 0
  · exact .inl h0
  right
  rcases open_ints Try.underlying36 Try.underlying3 (by kernel_rfl) h with ⟨hcs, _⟩ | ⟨ad, l, c, zs, hcs, _, hl, hm, hz, _, hcell, hwz⟩
  · simp at hcs; omega
  · simp at hcs
    obtain ⟨rfl, rfl, rfl⟩ := hcs
    have hz' : zs.length = cap := by simpa using hz
    have h00 := hcell 0 (by omega)
    have hsp : ad.spot = none := by
      have := World.cell?_spot h00
      simpa [Addr.add] using this
    obtain ⟨b, o, sp⟩ := ad
    simp only at hsp
    subst hsp
    refine ⟨b, o, zs.take len, rfl, by simp; omega, fun i k hk => ?_⟩
    have hil : i < len := by have := (List.getElem?_eq_some_iff.1 hk).1; simp at this; omega
    have h1 := hcell i (by omega)
    rw [Addr.add_lit] at h1
    rw [List.getElem?_take, if_pos hil] at hk
    rw [h1, List.getD_eq_getElem?_getD, hk]
    rfl
end

/-! ### STEP 1: THE WALK -/
set_option maxRecDepth 100000 in
set_option maxHeartbeats 2000000 in
theorem walk (a0 : Option Addr) (len0 cap0 : Nat) (a1 : Option Addr) (len1 cap1 : Nat) (a2 : Int) (w : World) (w0 : IsPrs w a0 len0) (w1 : IsKeys w a1 len1) :
    Calls Try.prog 5 #[.slice a0 len0 cap0, .slice a1 len1 cap1, .int .i64 a2] w fun e w' => e = .returned (.bool true) ∧ Below w.heap.size w w' := by
  by_cases h : len0 ≤ 100
  · by_cases h1 : len1 ≤ 100
    · obtain ⟨lb, lo, O, hO, had⟩ : ∃ (lb lo : Nat) (O : Nat → KV), PrsIn w lb lo len0 O ∧ (0 < len0 → a0 = some ⟨lb, lo, none⟩) := by
        rcases w0 with h0 | ⟨lb, lo, O, h0, hO⟩
        · exact ⟨0, 0, fun _ => (0, 0), fun i hi => by omega, fun hi => by omega⟩
        · exact ⟨lb, lo, O, hO, fun _ => h0⟩
      obtain ⟨lb2, lo2, D, hDl, hD, had2⟩ : ∃ (lb2 lo2 : Nat) (D : List Int), D.length = len1 ∧ KeysIn w lb2 lo2 D ∧ (0 < len1 → a1 = some ⟨lb2, lo2, none⟩) := by
        rcases w1 with h0 | ⟨lb, lo, D, h0, hl, hD⟩
        · exact ⟨0, 0, [], by simp [h0], fun i k hk => by simp at hk, fun hi => by omega⟩
        · exact ⟨lb, lo, D, hl, hD, fun _ => h0⟩
      exact (orders_core h h1 hDl w hO had hD had2).mono fun _ _ h => ⟨h.1, h.2.below⟩
    · have h2 : (100 : Int) < len1 := by omega
      have h3 : ¬ (100 : Int) < len0 := by omega
      clear h h1 w0 w1
      go_enter Try.func5, Try.ntmps5
      go_wp2_with fail
      refine (tr_known w).mono ?_
      rintro e w1 ⟨rfl, hO0⟩
      go_wp2_with fail
      go_ret
      exact ⟨rfl, hO0.below⟩
  · have h1 : (100 : Int) < len0 := by omega
    clear h w0 w1
    go_enter Try.func5, Try.ntmps5
    go_wp2_with fail
    refine (tr_known w).mono ?_
    rintro e w1 ⟨rfl, hO0⟩
    go_wp2_with fail
    go_ret
    exact ⟨rfl, hO0.below⟩

/-! ### THE ROW's STEP -/
set_option maxRecDepth 100000 in
theorem lifted (os : Os) (started : os.Started) (H : Type) (enc : TypeId × Value → H) :
    ReturnsInHanded {} Try.checked os 5 .any (Rows.trieOrdersSpec.pre6 enc Try.prog Try.f5 Rows.trieOrdersRow.domain false) (Rows.trieOrdersSpec.post enc Try.prog Try.f5 false true false false) := by
  refine returnsInHanded_of_change (C := Try.checked) own started (by kernel_rfl) Try.func5
    (ChangeSpec.witness6 (enc := enc) (C := Try.checked) false ⟨#[], #[.slice none 0 0, .slice none 0 0, .int .i64 0], []⟩ 8 (by kernel_rfl) (by kernel_rfl) (by kernel_rfl) (by kernel_rfl)) ?_
  intro W base args ds gs before hval0 hW hcnd _
  have hval : ∀ (j : Nat) t v, Try.f5.params[j]? = some t → args[j]? = some v → Value.okWide Try.prog W .any base t v := hval0
  have hW' := hW
  obtain ⟨p, q, hA0, hV, rfl, hfz, hnd⟩ := hW
  have hA : DataW.TrodAll enc Try.prog W 0 (fun _ => true) true Try.f5.params.toList args.toList ds p := hA0
  rw [Try.params5] at hA hval
  obtain ⟨v0, vs0, d0, ds0, p0, q0, hargs, rfl, rfl, h0, r0⟩ := trodAll_cons hA
  obtain ⟨v1, vs1, d1, ds1, p1, q1, rfl, rfl, rfl, h1, r1⟩ := trodAll_cons r0
  obtain ⟨v2, vs2, d2, ds2, p2, q2, rfl, rfl, rfl, h2, r2⟩ := trodAll_cons r1
  obtain ⟨rfl, rfl, rfl⟩ := trodAll_nil r2
  obtain rfl : args = #[v0, v1, v2] := by cases args; simp_all
  obtain ⟨rfl, rfl⟩ := trodVars_none hV
  obtain ⟨a0, len0, cap0, rfl⟩ := okWide_slice Try.underlying31 (hval 0 31 v0 rfl rfl)
  have k0 := h0
  have lt0 : ∀ x ∈ p0, x.block < W.heap.size := by obtain ⟨m, hm⟩ := k0; exact DataW.trod_lt m _ _ _ hm
  have w0 : IsPrs W a0 len0 := by
    obtain ⟨fuel, hf⟩ := h0
    exact prs_of hf
  obtain ⟨a1, len1, cap1, rfl⟩ := okWide_slice Try.underlying36 (hval 1 36 v1 rfl rfl)
  have k1 := h1
  have lt1 : ∀ x ∈ p1, x.block < W.heap.size := by obtain ⟨m, hm⟩ := k1; exact DataW.trod_lt m _ _ _ hm
  have w1 : IsKeys W a1 len1 := by
    obtain ⟨fuel, hf⟩ := h1
    exact keys_of hf
  obtain ⟨a2, rfl, rfl, rfl, w2⟩ := open_int Try.underlying3 (hval 2 3 v2 rfl rfl) h2
  clear hA0 hval0
  refine (walk a0 len0 cap0 a1 len1 cap1 a2 W w0 w1).mono fun e W' ⟨he, bel⟩ => ?_
  subst he
  exact ⟨_, rfl, _, _, _, [], _, [], hW', trodAll_mk1 (shut_bool Try.underlying4 _), (trodAll_cons_mk (Below.trod laidOut (by kernel_rfl) (of_decide_eq_true (by kernel_rfl)) k0 bel lt0) (trodAll_cons_mk (Below.trod laidOut (by kernel_rfl) (of_decide_eq_true (by kernel_rfl)) k1 bel lt1) (trodAll_cons_mk (shut_int Try.underlying3 w2) trodAll_mk0))), rfl, bel.frame _, fun h => by cases h⟩

theorem over : Rows.trieOrdersRow.holds Try.pinned (OpenSpec.ofChange Rows.trieOrdersSpec) :=
  OpenClaim.holds_of_wide 5 Try.f5 rfl rfl rfl rfl rfl rfl rfl ⟨rfl, rfl, rfl, rfl, rfl⟩ rfl rfl rfl rfl rfl (by kernel_rfl) Try.func5 (by kernel_rfl)
    (of_decide_eq_true (by kernel_rfl)) (by unfold Func.isWrapper; first | (rw [if_pos (by decide +kernel)]; kernel_rfl) | (rw [if_neg (by decide +kernel)]; exact ⟨rfl, rfl⟩))
    (fun os started H enc _ => lifted os started H enc)

/-- ████ THE STATEMENT ████ -/
theorem proved : Rows.TrieOrdersSaid := over
#print axioms proved
end Go.Proofs.Ytacegkjobfeiiaa.trieOrders

