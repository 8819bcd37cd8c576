/- For every number of slots and every script the call of ChainAlone returns true, and each argument reads behind the call as it read before. No condition of its own. -/
import Derived.Test.YteeibhjmjejplaaRows
import Derived.WalkKit
import Derived.ProofKit
import Derived.OpenShut
import Derived.ChangeOld
import Derived.Below
import Derived.Deep.Slices
import Derived.Deep.Fields
import Derived.Test.YteeibhjmjejplaaChainK
namespace Go.Proofs.Yteeibhjmjejplaa.chainAlone
open Go.ChangeShapes Go.WideShapes Go.ChangeAt Go.RowKit Go.Deep
set_option linter.unusedVariables false

theorem own : ownKnob Try.prog.godebug = none := by kernel_rfl
theorem laidOut : laidOutB Try.prog = true := by kernel_rfl

section
variable {H : Type} {enc : TypeId × Value → H} {P : Program} {w : World} {base : Nat} {spare : Nat → Bool} {held : Bool}
/-- A slice of structs of one-cell fields: each element's each field: its cell. -/
theorem rec_at {t e : TypeId} {fs : Array Field} {fuel : Nat} {cs : List Value} {x : DataW H × List MemPlace} (ht : P.underlying t = some (.slice e)) (he : P.underlying e = some (.struct fs))
    (hone : oneCellFields P fs = true) (hC : P.cellsOf e = fs.size) (h : DataW.trod enc P w base spare held fuel t cs = some x) :
    cs = [.slice none 0 0] ∨ ∃ (a : Addr) (len cap : Nat), cs = [.slice (some a) len cap] ∧
      ∀ i, i < len → ∀ (j : Nat) (f : Field), fs[j]? = some f → ∃ (v : Value) (y : DataW H × List MemPlace) (n : Nat), w.cell? (a.add (i * fs.size + j)) = some v ∧ DataW.trod enc P w base spare held n f.type [v] = some y := by
  rcases open_slice ht h with h0 | ⟨a, len, cap, m, n, D, Pl, hcs, _, hl, _, hmm, _, hi⟩
  · exact .inl h0.1
  · refine .inr ⟨a, len, cap, hcs, fun i hil j f hj => ?_⟩
    have him : i < m := by
      rw [hmm]
      split <;> omega
    obtain ⟨cs', hc, ht'⟩ := hi i him
    rw [hC] at hc
    obtain ⟨ys, n', _, hy, hlen, hyl, hf⟩ := DataW.trod_struct he ht'
    obtain ⟨_, hcl, hat⟩ := World.cells?_some hc
    obtain ⟨ho, hk⟩ := hone_of hone j f hj
    have hjl : j < fs.size := (Array.getElem?_eq_some_iff.1 hj).1
    have hcell := hat j hjl
    have hv : cs'[j]? = some (cs'[j]'(by omega)) := List.getElem?_eq_getElem (by omega)
    have h1 := hf j f hj
    rw [ho, hk, List.drop_eq_getElem_cons (show j < cs'.length by omega), List.take_succ_cons, List.take_zero] at h1
    have hys : ys[j]? = some (ys[j]'(by omega)) := List.getElem?_eq_getElem (by omega)
    refine ⟨_, _, n', ?_, h1.trans hys⟩
    rw [← Go.Deep.add_add, hcell, hv]

/-- A slice of integers: what it reads as. -/
theorem ints_at {t e : TypeId} {fuel : Nat} {v : Value} {x : DataW H × List MemPlace} (ht : P.underlying t = some (.slice e)) (he : P.underlying e = some (.int .i64)) (hC : P.cellsOf e = 1) (h : DataW.trod enc P w base spare held fuel t [v] = some x) :
    ∃ xs : List Int, Reads w v xs ∧ (xs = [] ∨ ∀ k, k ∈ blockOf v → k < w.heap.size) ∧ (v = .slice none 0 0 ∨ ∃ a l c, v = .slice (some a) l c) := by
  rcases open_slice ht h with h0 | ⟨a, len, cap, m, n, D, Pl, hcs, _, hl, _, hmm, _, hi⟩
  · have hv : v = .slice none 0 0 := by simpa using h0.1
    subst hv
    exact ⟨[], Reads.nil _, .inl rfl, .inl rfl⟩
  · have hv : v = .slice (some a) len cap := by simpa using hcs
    subst hv
    have h1 : ∀ i, i < len → ∃ z : Int, w.cell? (a.add i) = some (.int .i64 z) := fun i hil => by
      have him : i < m := by
        rw [hmm]
        split <;> omega
      obtain ⟨cs', hc, ht'⟩ := hi i him
      rw [hC] at hc
      obtain ⟨_, hcl, hat⟩ := World.cells?_some hc
      have hcell := hat 0 (by omega)
      have hv0 : cs'[0]? = some (cs'[0]'(by omega)) := List.getElem?_eq_getElem (by omega)
      have hcs1 : cs' = [cs'[0]'(by omega)] := by
        apply List.ext_getElem
        · simpa using hcl
        · intro j h1 h2
          have : j = 0 := by simp at h2; omega
          subst this; rfl
      rw [hcs1] at ht'
      obtain ⟨z, e0, _⟩ := DataW.trod_int he ht'
      refine ⟨z, ?_⟩
      rw [Nat.mul_one, Go.Deep.add_add, Nat.add_zero] at hcell
      rw [hcell, hv0]
      have e1 : cs'[0]'(by omega) = .int .i64 z := by simpa using e0
      rw [e1]
    obtain ⟨f, hf⟩ := choose_lt h1
    by_cases h0 : len = 0
    · subst h0
      exact ⟨[], ⟨some a, cap, rfl, .inl rfl⟩, .inl rfl, .inr ⟨_, _, _, rfl⟩⟩
    · have hsp : a.spot = none := by
        have := World.cell?_spot (hf 0 (by omega))
        simpa [Addr.add] using this
      obtain ⟨b, o, sp⟩ := a
      simp only at hsp
      subst hsp
      have hc : ∀ i, i < len → w.cell? ⟨b, o + i, none⟩ = some (.int .i64 (f i)) := fun i hil => by
        have := hf i hil
        rwa [Addr.add_lit] at this
      have hb : b < w.heap.size := by
        have := hc 0 (by omega)
        unfold World.cell? at this
        split at this
        · rename_i c e fr hb
          exact (Array.getElem?_eq_some_iff.1 hb).1
        · cases this
      have hlen : ((List.range len).map f).length = len := by simp
      refine ⟨(List.range len).map f, ⟨some ⟨b, o, none⟩, cap, by rw [hlen], .inr ⟨b, o, rfl, hb, fun i hil => ?_⟩⟩, .inr fun k hk => by simp [blockOf] at hk; omega, .inr ⟨_, _, _, rfl⟩⟩
      rw [hlen] at hil
      rw [hc i hil]
      simp [List.getD, hil]
end

instance : Inhabited Op4 := ⟨⟨0, 0, 0, .slice none 0 0, []⟩⟩

def IsOps (w : World) (a : Option Addr) (len : Nat) : Prop := len = 0 ∨ ∃ (b o : Nat) (O : Nat → Op4), a = some ⟨b, o, none⟩ ∧ OpsAt w b o len O

section
variable {H : Type} {enc : TypeId × Value → H} {w : World} {base : Nat} {spare : Nat → Bool} {held : Bool}
theorem ops_of {fuel : Nat} {a : Option Addr} {len cap : Nat} {x : DataW H × List MemPlace} (h : DataW.trod enc Try.prog w base spare held fuel 22 [.slice a len cap] = some x) : IsOps w a len := by
  by_cases h0 : len = 0
  · exact .inl h0
  right
  rcases rec_at Try.underlying22 Try.underlying45 (by kernel_rfl) (by kernel_rfl) h with hcs | ⟨ad, l, c, hcs, hi⟩
  · simp at hcs; omega
  · simp at hcs
    obtain ⟨rfl, rfl, rfl⟩ := hcs
    have h1 : ∀ i, i < len → ∃ p : Op4, w.cell? (ad.add (i * 4)) = some (.int .i64 p.kind) ∧ w.cell? (ad.add (i * 4 + 1)) = some (.int .i64 p.a) ∧ w.cell? (ad.add (i * 4 + 2)) = some (.int .i64 p.old) ∧ w.cell? (ad.add (i * 4 + 3)) = some p.v ∧
        Reads w p.v p.l ∧ (p.l = [] ∨ ∀ k, k ∈ blockOf p.v → k < w.heap.size) ∧ (p.v = .slice none 0 0 ∨ ∃ a l c, p.v = .slice (some a) l c) := fun i hil => by
      obtain ⟨v0, y0, n0, c0, t0⟩ := hi i hil 0 _ rfl
      obtain ⟨v1, y1, n1, c1, t1⟩ := hi i hil 1 _ rfl
      obtain ⟨v2, y2, n2, c2, t2⟩ := hi i hil 2 _ rfl
      obtain ⟨v3, y3, n3, c3, t3⟩ := hi i hil 3 _ rfl
      obtain ⟨z0, e0, _⟩ := DataW.trod_int Try.underlying3 t0
      obtain ⟨z1, e1, _⟩ := DataW.trod_int Try.underlying3 t1
      obtain ⟨z2, e2, _⟩ := DataW.trod_int Try.underlying3 t2
      obtain ⟨xs, hr, hb, hn⟩ := ints_at Try.underlying40 Try.underlying3 (by kernel_rfl) t3
      cases e0; cases e1; cases e2
      exact ⟨⟨z0, z1, z2, v3, xs⟩, c0, c1, c2, c3, hr, hb, hn⟩
    obtain ⟨f, hf⟩ := choose_lt h1
    have hsp : ad.spot = none := by
      have := World.cell?_spot (hf 0 (by omega)).1
      simpa [Addr.add] using this
    obtain ⟨b, o, sp⟩ := ad
    simp only at hsp
    subst hsp
    refine ⟨b, o, f, rfl, fun i hil => ?_⟩
    obtain ⟨h1, h2, h3, h4, h5⟩ := hf i hil
    rw [Addr.add_lit] at h1 h2 h3 h4
    exact ⟨h1, h2, h3, h4, h5⟩
end

/-! ### STEP 1: THE WALK -/
set_option maxRecDepth 100000 in
set_option maxHeartbeats 2000000 in
theorem walk (a0 : Int) (a1 : Option Addr) (len1 cap1 : Nat) (w : World) (w1 : IsOps w a1 len1) :
    Calls Try.prog 3 #[.int .i64 a0, .slice a1 len1 cap1] w fun e w' => e = .returned (.bool true) ∧ Below w.heap.size w w' := by
  by_cases h : 2 ≤ a0 ∧ a0 ≤ 200 ∧ len1 ≤ 200
  · obtain ⟨h1, h2, h3⟩ := h
    obtain ⟨n, rfl⟩ : ∃ n : Nat, a0 = n := ⟨a0.toNat, by omega⟩
    rcases w1 with h0 | ⟨lb, lo, O, rfl, hO⟩
    · subst h0
      exact (alone_core n 0 0 0 cap1 a1 (fun _ => ⟨0, 0, 0, .slice none 0 0, []⟩) (by omega) (by omega) h3 w (fun i hi => absurd hi (Nat.not_lt_zero _)) (fun hi => absurd hi (Nat.lt_irrefl _))).mono fun _ _ h => ⟨h.1, h.2.below⟩
    · exact (alone_core n len1 lb lo cap1 _ O (by omega) (by omega) h3 w hO (fun _ => rfl)).mono fun _ _ h => ⟨h.1, h.2.below⟩
  · have hc : a0 < 2 ∨ (decide (a0 < 2) = false ∧ 200 < a0) ∨ (decide (a0 < 2) = false ∧ decide (200 < a0) = false ∧ (200 : Int) < len1) := by
      by_cases h1 : a0 < 2
      · exact .inl h1
      · by_cases h2 : 200 < a0
        · exact .inr (.inl ⟨by simp; omega, h2⟩)
        · exact .inr (.inr ⟨by simp; omega, by simp; omega, by omega⟩)
    clear h w1
    rcases hc with h1 | ⟨h1, h2⟩ | ⟨h1, h2, h3⟩
    all_goals
      go_enter Try.func3, Try.ntmps3
      go_wp2_with fail
      refine (chain_known w).mono ?_
      rintro e w0 ⟨rfl, hO0⟩
      go_wp2_with fail
      go_ret
      exact ⟨rfl, hO0.below⟩

/-! ### THE ROW's STEP: WRITTEN OUT: LEAVE IT -/
set_option maxRecDepth 100000 in
theorem lifted (os : Os) (started : os.Started) (H : Type) (enc : TypeId × Value → H) :
    ReturnsInHanded {} Try.checked os 3 .any (Rows.chainAloneSpec.pre6 enc Try.prog Try.f3 Rows.chainAloneRow.domain false) (Rows.chainAloneSpec.post enc Try.prog Try.f3 false true false false) := by
  refine returnsInHanded_of_change (C := Try.checked) own started (by kernel_rfl) Try.func3
    (ChangeSpec.witness6 (enc := enc) (C := Try.checked) false ⟨#[], #[.int .i64 0, .slice none 0 0], []⟩ 8 (by kernel_rfl) (by kernel_rfl) (by kernel_rfl) (by kernel_rfl)) ?_
  intro W base args ds gs before hval0 hW hcnd _
  have hval : ∀ (j : Nat) t v, Try.f3.params[j]? = some t → args[j]? = some v → Value.okWide Try.prog W .any base t v := hval0
  have hW' := hW
  obtain ⟨p, q, hA0, hV, rfl, hfz, hnd⟩ := hW
  have hA : DataW.TrodAll enc Try.prog W 0 (fun _ => true) true Try.f3.params.toList args.toList ds p := hA0
  rw [Try.params3] at hA hval
  obtain ⟨v0, vs0, d0, ds0, p0, q0, hargs, rfl, rfl, h0, r0⟩ := trodAll_cons hA
  obtain ⟨v1, vs1, d1, ds1, p1, q1, rfl, rfl, rfl, h1, r1⟩ := trodAll_cons r0
  obtain ⟨rfl, rfl, rfl⟩ := trodAll_nil r1
  obtain rfl : args = #[v0, v1] := by cases args; simp_all
  obtain ⟨rfl, rfl⟩ := trodVars_none hV
  obtain ⟨a0, rfl, rfl, rfl, w0⟩ := open_int Try.underlying3 (hval 0 3 v0 rfl rfl) h0
  obtain ⟨a1, len1, cap1, rfl⟩ := okWide_slice Try.underlying22 (hval 1 22 v1 rfl rfl)
  have k1 := h1
  have lt1 : ∀ x ∈ p1, x.block < W.heap.size := by obtain ⟨m, hm⟩ := k1; exact DataW.trod_lt m _ _ _ hm
  have w1 : IsOps W a1 len1 := by
    obtain ⟨fuel, hf⟩ := h1
    exact ops_of hf
  clear hA0 hval0
  refine (walk a0 a1 len1 cap1 W w1).mono fun e W' ⟨he, bel⟩ => ?_
  subst he
  exact ⟨_, rfl, _, _, _, [], _, [], hW', trodAll_mk1 (shut_bool Try.underlying4 _), (trodAll_cons_mk (shut_int Try.underlying3 w0) (trodAll_cons_mk (Below.trod laidOut (by kernel_rfl) (of_decide_eq_true (by kernel_rfl)) k1 bel lt1) trodAll_mk0)), rfl, bel.frame _, fun h => by cases h⟩

theorem over : Rows.chainAloneRow.holds Try.pinned (OpenSpec.ofChange Rows.chainAloneSpec) :=
  OpenClaim.holds_of_wide 3 Try.f3 rfl rfl rfl rfl rfl rfl rfl ⟨rfl, rfl, rfl, rfl, rfl⟩ rfl rfl rfl rfl rfl (by kernel_rfl) Try.func3 (by kernel_rfl)
    (of_decide_eq_true (by kernel_rfl)) (by unfold Func.isWrapper; first | (rw [if_pos (by decide +kernel)]; kernel_rfl) | (rw [if_neg (by decide +kernel)]; exact ⟨rfl, rfl⟩))
    (fun os started H enc _ => lifted os started H enc)

/-- ████ THE STATEMENT ████ -/
theorem proved : Rows.ChainAloneSaid := over
#print axioms proved
end Go.Proofs.Yteeibhjmjejplaa.chainAlone
