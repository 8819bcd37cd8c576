/- For every pool's size, every row of changes and every two bounds the call of TrieMaps returns true, and each argument reads behind the call as it read before. No condition of its own. -/
import Derived.Test.YtacegkjobfeiiaaRows
import Derived.WalkKit
import Derived.ProofKit
import Derived.OpenShut
import Derived.ChangeOld
import Derived.Below
import Derived.Deep.Slices
import Derived.Deep.Fields
import Derived.Test.YtacegkjobfeiiaaCTrieGg
set_option linter.unusedVariables false
set_option linter.unusedSimpArgs false
set_option linter.unusedSectionVars false
set_option linter.unnecessarySimpa false
namespace Go.Proofs.Ytacegkjobfeiiaa.trieMaps
open Go.ChangeShapes Go.WideShapes Go.ChangeAt Go.RowKit Go.Deep
set_option linter.unusedVariables false

theorem own : ownKnob Try.prog.godebug = none := by kernel_rfl
theorem laidOut : laidOutB Try.prog = true := by kernel_rfl

section
variable {H : Type} {enc : TypeId × Value → H} {P : Program} {w : World} {base : Nat} {spare : Nat → Bool} {held : Bool}
/-- A slice of structs of one-cell fields: each element's each field: its cell. -/
theorem rec_at {t e : TypeId} {fs : Array Field} {fuel : Nat} {cs : List Value} {x : DataW H × List MemPlace} (ht : P.underlying t = some (.slice e)) (he : P.underlying e = some (.struct fs))
    (hone : oneCellFields P fs = true) (hC : P.cellsOf e = fs.size) (h : DataW.trod enc P w base spare held fuel t cs = some x) :
    cs = [.slice none 0 0] ∨ ∃ (a : Addr) (len cap : Nat), cs = [.slice (some a) len cap] ∧
      ∀ i, i < len → ∀ (j : Nat) (f : Field), fs[j]? = some f → ∃ (v : Value) (y : DataW H × List MemPlace) (n : Nat), w.cell? (a.add (i * fs.size + j)) = some v ∧ DataW.trod enc P w base spare held n f.type [v] = some y := by
  rcases open_slice ht h with h0 | ⟨a, len, cap, m, n, D, Pl, hcs, _, hl, _, hmm, _, hi⟩
  · exact .inl h0.1
  · refine .inr ⟨a, len, cap, hcs, fun i hil j f hj => ?_⟩
    have him : i < m := by
      rw [hmm]
      split <;> omega
    obtain ⟨cs', hc, ht'⟩ := hi i him
    rw [hC] at hc
    obtain ⟨ys, n', _, hy, hlen, hyl, hf⟩ := DataW.trod_struct he ht'
    obtain ⟨_, hcl, hat⟩ := World.cells?_some hc
    obtain ⟨ho, hk⟩ := hone_of hone j f hj
    have hjl : j < fs.size := (Array.getElem?_eq_some_iff.1 hj).1
    have hcell := hat j hjl
    have hv : cs'[j]? = some (cs'[j]'(by omega)) := List.getElem?_eq_getElem (by omega)
    have h1 := hf j f hj
    rw [ho, hk, List.drop_eq_getElem_cons (show j < cs'.length by omega), List.take_succ_cons, List.take_zero] at h1
    have hys : ys[j]? = some (ys[j]'(by omega)) := List.getElem?_eq_getElem (by omega)
    refine ⟨_, _, n', ?_, h1.trans hys⟩
    rw [← Go.Deep.add_add, hcell, hv]

end

instance : Inhabited Chg := ⟨⟨0, 0, 0, false⟩⟩

def IsChgs (w : World) (a : Option Addr) (len : Nat) : Prop := len = 0 ∨ ∃ (b o : Nat) (O : Nat → Chg), a = some ⟨b, o, none⟩ ∧ ChgsAt w b o len O

section
variable {H : Type} {enc : TypeId × Value → H} {w : World} {base : Nat} {spare : Nat → Bool} {held : Bool}
theorem chgs_of {fuel : Nat} {a : Option Addr} {len cap : Nat} {x : DataW H × List MemPlace} (h : DataW.trod enc Try.prog w base spare held fuel 22 [.slice a len cap] = some x) : IsChgs w a len := by
  by_cases h0 : len = 0
  · exact .inl h0
  right
  rcases rec_at Try.underlying22 Try.underlying42 (by kernel_rfl) (by kernel_rfl) h with hcs | ⟨ad, l, c, hcs, hi⟩
  · simp at hcs; omega
  · simp at hcs
    obtain ⟨rfl, rfl, rfl⟩ := hcs
    have h1 : ∀ i, i < len → ∃ p : Chg, w.cell? (ad.add (i * 4)) = some (.int .i64 p.of) ∧ w.cell? (ad.add (i * 4 + 1)) = some (.int .i64 p.k) ∧ w.cell? (ad.add (i * 4 + 2)) = some (.int .i64 p.v) ∧ w.cell? (ad.add (i * 4 + 3)) = some (.bool p.d) := fun i hil => by
      obtain ⟨v0, y0, n0, c0, t0⟩ := hi i hil 0 _ rfl
      obtain ⟨v1, y1, n1, c1, t1⟩ := hi i hil 1 _ rfl
      obtain ⟨v2, y2, n2, c2, t2⟩ := hi i hil 2 _ rfl
      obtain ⟨v3, y3, n3, c3, t3⟩ := hi i hil 3 _ rfl
      obtain ⟨z0, e0, _⟩ := DataW.trod_int Try.underlying3 t0
      obtain ⟨z1, e1, _⟩ := DataW.trod_int Try.underlying3 t1
      obtain ⟨z2, e2, _⟩ := DataW.trod_int Try.underlying3 t2
      obtain ⟨z3, e3, _⟩ := DataW.trod_bool Try.underlying4 t3
      cases e0; cases e1; cases e2; cases e3
      exact ⟨⟨z0, z1, z2, z3⟩, c0, c1, c2, c3⟩
    obtain ⟨f, hf⟩ := choose_lt h1
    have hsp : ad.spot = none := by
      have := World.cell?_spot (hf 0 (by omega)).1
      simpa [Addr.add] using this
    obtain ⟨b, o, sp⟩ := ad
    simp only at hsp
    subst hsp
    refine ⟨b, o, f, rfl, fun i hil => ?_⟩
    obtain ⟨h1, h2, h3, h4⟩ := hf i hil
    rw [Addr.add_lit] at h1 h2 h3 h4
    exact ⟨h1, h2, h3, h4⟩
end

/-! ### STEP 1: THE WALK -/
set_option maxRecDepth 100000 in
set_option maxHeartbeats 2000000 in
theorem walk (a0 : Int) (a1 : Option Addr) (len1 cap1 : Nat) (a2 a3 : Int) (w : World) (w1 : IsChgs w a1 len1) :
    Calls Try.prog 4 #[.int .i64 a0, .slice a1 len1 cap1, .int .i64 a2, .int .i64 a3] w fun e w' => e = .returned (.bool true) ∧ Below w.heap.size w w' := by
  by_cases h : len1 ≤ 120
  · by_cases h1 : a0 < 1
    · have h2 : decide (a0 < 1) = true := by simpa using h1
      have h3 : ¬ (120 : Int) < len1 := by omega
      clear w1 h
      go_enter Try.func4, Try.ntmps4
      go_wp2_with fail
      refine (tr_known w).mono ?_
      rintro e w1 ⟨rfl, hO0⟩
      go_wp2_with fail
      go_ret
      exact ⟨rfl, hO0.below⟩
    · by_cases h2 : 4096 < a0
      · have h3 : ¬ (120 : Int) < len1 := by omega
        clear w1 h
        go_enter Try.func4, Try.ntmps4
        go_wp2_with fail
        refine (tr_known w).mono ?_
        rintro e w1 ⟨rfl, hO0⟩
        go_wp2_with fail
        go_ret
        exact ⟨rfl, hO0.below⟩
      · obtain ⟨n, rfl⟩ : ∃ n : Nat, a0 = n := ⟨a0.toNat, by omega⟩
        rcases w1 with h0 | ⟨lb, lo, O, rfl, hO⟩
        · subst h0
          exact (maps_core (lb := 0) (lo := 0) (O := fun _ => ⟨0, 0, 0, false⟩) (by omega) (by omega) (by omega) w (fun i hi => absurd hi (Nat.not_lt_zero _)) (fun hi => absurd hi (Nat.lt_irrefl _))).mono fun _ _ h => ⟨h.1, h.2.below⟩
        · exact (maps_core (by omega) (by omega) h w hO (fun _ => rfl)).mono fun _ _ h => ⟨h.1, h.2.below⟩
  · have h1 : (120 : Int) < len1 := by omega
    clear h w1
    go_enter Try.func4, Try.ntmps4
    go_wp2_with fail
    refine (tr_known w).mono ?_
    rintro e w1 ⟨rfl, hO0⟩
    go_wp2_with fail
    go_ret
    exact ⟨rfl, hO0.below⟩

/-! ### THE ROW's STEP -/
set_option maxRecDepth 100000 in
theorem lifted (os : Os) (started : os.Started) (H : Type) (enc : TypeId × Value → H) :
    ReturnsInHanded {} Try.checked os 4 .any (Rows.trieMapsSpec.pre6 enc Try.prog Try.f4 Rows.trieMapsRow.domain false) (Rows.trieMapsSpec.post enc Try.prog Try.f4 false true false false) := by
  refine returnsInHanded_of_change (C := Try.checked) own started (by kernel_rfl) Try.func4
    (ChangeSpec.witness6 (enc := enc) (C := Try.checked) false ⟨#[], #[.int .i64 0, .slice none 0 0, .int .i64 0, .int .i64 0], []⟩ 8 (by kernel_rfl) (by kernel_rfl) (by kernel_rfl) (by kernel_rfl)) ?_
  intro W base args ds gs before hval0 hW hcnd _
  have hval : ∀ (j : Nat) t v, Try.f4.params[j]? = some t → args[j]? = some v → Value.okWide Try.prog W .any base t v := hval0
  have hW' := hW
  obtain ⟨p, q, hA0, hV, rfl, hfz, hnd⟩ := hW
  have hA : DataW.TrodAll enc Try.prog W 0 (fun _ => true) true Try.f4.params.toList args.toList ds p := hA0
  rw [Try.params4] at hA hval
  obtain ⟨v0, vs0, d0, ds0, p0, q0, hargs, rfl, rfl, h0, r0⟩ := trodAll_cons hA
  obtain ⟨v1, vs1, d1, ds1, p1, q1, rfl, rfl, rfl, h1, r1⟩ := trodAll_cons r0
  obtain ⟨v2, vs2, d2, ds2, p2, q2, rfl, rfl, rfl, h2, r2⟩ := trodAll_cons r1
  obtain ⟨v3, vs3, d3, ds3, p3, q3, rfl, rfl, rfl, h3, r3⟩ := trodAll_cons r2
  obtain ⟨rfl, rfl, rfl⟩ := trodAll_nil r3
  obtain rfl : args = #[v0, v1, v2, v3] := by cases args; simp_all
  obtain ⟨rfl, rfl⟩ := trodVars_none hV
  obtain ⟨a0, rfl, rfl, rfl, w0⟩ := open_int Try.underlying3 (hval 0 3 v0 rfl rfl) h0
  obtain ⟨a1, len1, cap1, rfl⟩ := okWide_slice Try.underlying22 (hval 1 22 v1 rfl rfl)
  have k1 := h1
  have lt1 : ∀ x ∈ p1, x.block < W.heap.size := by obtain ⟨m, hm⟩ := k1; exact DataW.trod_lt m _ _ _ hm
  have w1 : IsChgs W a1 len1 := by
    obtain ⟨fuel, hf⟩ := h1
    exact chgs_of hf
  obtain ⟨a2, rfl, rfl, rfl, w2⟩ := open_int Try.underlying3 (hval 2 3 v2 rfl rfl) h2
  obtain ⟨a3, rfl, rfl, rfl, w3⟩ := open_int Try.underlying3 (hval 3 3 v3 rfl rfl) h3
  clear hA0 hval0
  refine (walk a0 a1 len1 cap1 a2 a3 W w1).mono fun e W' ⟨he, bel⟩ => ?_
  subst he
  exact ⟨_, rfl, _, _, _, [], _, [], hW', trodAll_mk1 (shut_bool Try.underlying4 _), (trodAll_cons_mk (shut_int Try.underlying3 w0) (trodAll_cons_mk (Below.trod laidOut (by kernel_rfl) (of_decide_eq_true (by kernel_rfl)) k1 bel lt1) (trodAll_cons_mk (shut_int Try.underlying3 w2) (trodAll_cons_mk (shut_int Try.underlying3 w3) trodAll_mk0)))), rfl, bel.frame _, fun h => by cases h⟩

theorem over : Rows.trieMapsRow.holds Try.pinned (OpenSpec.ofChange Rows.trieMapsSpec) :=
  OpenClaim.holds_of_wide 4 Try.f4 rfl rfl rfl rfl rfl rfl rfl ⟨rfl, rfl, rfl, rfl, rfl⟩ rfl rfl rfl rfl rfl (by kernel_rfl) Try.func4 (by kernel_rfl)
    (of_decide_eq_true (by kernel_rfl)) (by unfold Func.isWrapper; first | (rw [if_pos (by decide +kernel)]; kernel_rfl) | (rw [if_neg (by decide +kernel)]; exact ⟨rfl, rfl⟩))
    (fun os started H enc _ => lifted os started H enc)

/-- ████ THE STATEMENT ████ -/
theorem proved : Rows.TrieMapsSaid := over
#print axioms proved
end Go.Proofs.Ytacegkjobfeiiaa.trieMaps

