/- For every two sizes and every row of calls the call of PoolAlone returns true, and each argument reads behind the call as it read before; the package-level tables that its row lists are tied to the program's text. No condition of its own. -/
import Derived.Test.YtpknnamficegbaaGreatDoorCards
import Derived.Test.YtpknnamficegbaaGreatDoorTie
import Derived.SevenTiedAt
import Derived.LaidMore
import Derived.WalkKit
import Derived.ProofKit
import Derived.OpenShut
import Derived.ChangeOld
import Derived.Below
import Derived.Deep.Slices
import Derived.Deep.Fields
import Derived.Test.YtpknnamficegbaaGreatDoorCAlone
set_option linter.unusedVariables false
set_option linter.unusedSimpArgs false
set_option linter.unusedSectionVars false
set_option linter.unnecessarySimpa false
namespace Go.Proofs.YtpknnamficegbaaGreatDoor.poolAlone
open Go.ChangeShapes Go.WideShapes Go.ChangeAt Go.RowKit Go.Deep
set_option linter.unusedVariables false

theorem own : ownKnob Tryz.prog.godebug = none := by kernel_rfl
theorem laidOut : laidOutB Tryz.prog = true := by kernel_rfl
theorem cellsOp : Tryz.prog.cellsOf 45 = 9 := by kernel_rfl
theorem cellsNode : Tryz.prog.cellsOf 43 = 4 := by kernel_rfl
theorem cellsInt : Tryz.prog.cellsOf 3 = 1 := by kernel_rfl
theorem cellsBool : Tryz.prog.cellsOf 4 = 1 := by kernel_rfl

def Fits (x : Int) : Prop := -9223372036854775808 ≤ x ∧ x ≤ 9223372036854775807

instance : Inhabited Op9 := ⟨⟨0, 0, 0, 0, 0, 0, 0, 0, false⟩⟩

section
variable {H : Type} {enc : TypeId × Value → H} {w : World} {base : Nat} {spare : Nat → Bool} {held : Bool}

set_option maxRecDepth 100000 in
set_option maxHeartbeats 1000000 in
/-- One call's nine cells. -/
theorem op_of {fuel : Nat} {cs : List Value} {x : DataW H × List MemPlace} (h : DataW.trod enc Tryz.prog w base spare held fuel 45 cs = some x) :
    ∃ p : Op9, cs = [.int .i64 p.kind, .int .i64 p.h, .int .i64 p.a, .int .i64 p.v, .int .i64 p.xa, .int .i64 p.xb, .int .i64 p.xc, .int .i64 p.xd, .bool p.sec] ∧ Fits p.h ∧ Fits p.v := by
  obtain ⟨xs, n, _, _, hlen, hxs, hf⟩ := DataW.trod_struct Tryz.underlying45 h
  rw [cellsOp] at hlen
  match cs, hlen with
  | [c0, c1, c2, c3, c4, c5, c6, c7, c8], _ =>
    match xs, hxs with
    | [x0, x1, x2, x3, x4, x5], _ =>
      have t0 : DataW.trod enc Tryz.prog w base spare held n 3 (([c0, c1, c2, c3, c4, c5, c6, c7, c8].drop 0).take (Tryz.prog.cellsOf 3)) = some x0 := hf 0 _ rfl
      rw [cellsInt] at t0
      have t1 : DataW.trod enc Tryz.prog w base spare held n 3 (([c0, c1, c2, c3, c4, c5, c6, c7, c8].drop 1).take (Tryz.prog.cellsOf 3)) = some x1 := hf 1 _ rfl
      rw [cellsInt] at t1
      have t2 : DataW.trod enc Tryz.prog w base spare held n 3 (([c0, c1, c2, c3, c4, c5, c6, c7, c8].drop 2).take (Tryz.prog.cellsOf 3)) = some x2 := hf 2 _ rfl
      rw [cellsInt] at t2
      have t3 : DataW.trod enc Tryz.prog w base spare held n 3 (([c0, c1, c2, c3, c4, c5, c6, c7, c8].drop 3).take (Tryz.prog.cellsOf 3)) = some x3 := hf 3 _ rfl
      rw [cellsInt] at t3
      have t4 : DataW.trod enc Tryz.prog w base spare held n 43 (([c0, c1, c2, c3, c4, c5, c6, c7, c8].drop 4).take (Tryz.prog.cellsOf 43)) = some x4 := hf 4 _ rfl
      rw [cellsNode] at t4
      have t5 : DataW.trod enc Tryz.prog w base spare held n 4 (([c0, c1, c2, c3, c4, c5, c6, c7, c8].drop 8).take (Tryz.prog.cellsOf 4)) = some x5 := hf 5 _ rfl
      rw [cellsBool] at t5
      obtain ⟨z0, e0, _, _⟩ := DataW.trod_int Tryz.underlying3 (show DataW.trod enc Tryz.prog w base spare held n 3 [c0] = some x0 from t0)
      obtain ⟨z1, e1, _, w1⟩ := DataW.trod_int Tryz.underlying3 (show DataW.trod enc Tryz.prog w base spare held n 3 [c1] = some x1 from t1)
      obtain ⟨z2, e2, _, _⟩ := DataW.trod_int Tryz.underlying3 (show DataW.trod enc Tryz.prog w base spare held n 3 [c2] = some x2 from t2)
      obtain ⟨z3, e3, _, w3⟩ := DataW.trod_int Tryz.underlying3 (show DataW.trod enc Tryz.prog w base spare held n 3 [c3] = some x3 from t3)
      obtain ⟨b8, e8, _⟩ := DataW.trod_bool Tryz.underlying4 (show DataW.trod enc Tryz.prog w base spare held n 4 [c8] = some x5 from t5)
      obtain ⟨ys, n', _, _, _, hys, hg⟩ := DataW.trod_struct Tryz.underlying43 (show DataW.trod enc Tryz.prog w base spare held n 43 [c4, c5, c6, c7] = some x4 from t4)
      match ys, hys with
      | [y0, y1, y2, y3], _ =>
        have s0 : DataW.trod enc Tryz.prog w base spare held n' 3 (([c4, c5, c6, c7].drop 0).take (Tryz.prog.cellsOf 3)) = some y0 := hg 0 _ rfl
        rw [cellsInt] at s0
        have s1 : DataW.trod enc Tryz.prog w base spare held n' 3 (([c4, c5, c6, c7].drop 1).take (Tryz.prog.cellsOf 3)) = some y1 := hg 1 _ rfl
        rw [cellsInt] at s1
        have s2 : DataW.trod enc Tryz.prog w base spare held n' 3 (([c4, c5, c6, c7].drop 2).take (Tryz.prog.cellsOf 3)) = some y2 := hg 2 _ rfl
        rw [cellsInt] at s2
        have s3 : DataW.trod enc Tryz.prog w base spare held n' 3 (([c4, c5, c6, c7].drop 3).take (Tryz.prog.cellsOf 3)) = some y3 := hg 3 _ rfl
        rw [cellsInt] at s3
        obtain ⟨z4, e4, _, _⟩ := DataW.trod_int Tryz.underlying3 (show DataW.trod enc Tryz.prog w base spare held n' 3 [c4] = some y0 from s0)
        obtain ⟨z5, e5, _, _⟩ := DataW.trod_int Tryz.underlying3 (show DataW.trod enc Tryz.prog w base spare held n' 3 [c5] = some y1 from s1)
        obtain ⟨z6, e6, _, _⟩ := DataW.trod_int Tryz.underlying3 (show DataW.trod enc Tryz.prog w base spare held n' 3 [c6] = some y2 from s2)
        obtain ⟨z7, e7, _, _⟩ := DataW.trod_int Tryz.underlying3 (show DataW.trod enc Tryz.prog w base spare held n' 3 [c7] = some y3 from s3)
        cases e0; cases e1; cases e2; cases e3; cases e4; cases e5; cases e6; cases e7; cases e8
        exact ⟨⟨z0, z1, z2, z3, z4, z5, z6, z7, b8⟩, rfl, bounds_i64 w1, bounds_i64 w3⟩

theorem ops_of {fuel : Nat} {a : Option Addr} {len cap : Nat} {x : DataW H × List MemPlace} (h : DataW.trod enc Tryz.prog w base spare held fuel 22 [.slice a len cap] = some x) : IsOps w a len := by
  by_cases h0 : len = 0
  · exact .inl h0
  right
  rcases open_slice Tryz.underlying22 h with h1 | ⟨ad, l, c, m, n, D, Pl, hcs, _, hl, _, hmm, _, hi⟩
  · have := h1.1
    simp at this
    omega
  · simp at hcs
    obtain ⟨rfl, rfl, rfl⟩ := hcs
    have h1 : ∀ i, i < len → ∃ p : Op9, (w.cell? (ad.add (i * 9)) = some (.int .i64 p.kind) ∧ w.cell? (ad.add (i * 9 + 1)) = some (.int .i64 p.h) ∧ w.cell? (ad.add (i * 9 + 2)) = some (.int .i64 p.a) ∧ w.cell? (ad.add (i * 9 + 3)) = some (.int .i64 p.v) ∧
        w.cell? (ad.add (i * 9 + 4)) = some (.int .i64 p.xa) ∧ w.cell? (ad.add (i * 9 + 5)) = some (.int .i64 p.xb) ∧ w.cell? (ad.add (i * 9 + 6)) = some (.int .i64 p.xc) ∧ w.cell? (ad.add (i * 9 + 7)) = some (.int .i64 p.xd) ∧ w.cell? (ad.add (i * 9 + 8)) = some (.bool p.sec)) ∧
        Fits p.h ∧ Fits p.v := fun i hil => by
      have him : i < m := by
        rw [hmm]
        split <;> omega
      obtain ⟨cs', hc, ht'⟩ := hi i him
      rw [cellsOp] at hc
      obtain ⟨_, hcl, hat⟩ := World.cells?_some hc
      obtain ⟨p, rfl, hr⟩ := op_of ht'
      have g := fun j (hj : j < 9) => hat j hj
      simp only [Go.Deep.add_add] at g
      exact ⟨p, ⟨g 0 (by omega), g 1 (by omega), g 2 (by omega), g 3 (by omega), g 4 (by omega), g 5 (by omega), g 6 (by omega), g 7 (by omega), g 8 (by omega)⟩, hr⟩
    obtain ⟨f, hf⟩ := choose_lt h1
    have hsp : ad.spot = none := by
      have := World.cell?_spot (hf 0 (by omega)).1.1
      simpa [Addr.add] using this
    obtain ⟨b, o, sp⟩ := ad
    simp only at hsp
    subst hsp
    refine ⟨b, o, f, rfl, fun i hil => ?_⟩
    obtain ⟨⟨h0, h1, h2, h3, h4, h5, h6, h7, h8⟩, hr⟩ := hf i hil
    rw [Addr.add_lit] at h0 h1 h2 h3 h4 h5 h6 h7 h8
    exact ⟨h0, h1, h2, h3, h4, h5, h6, h7, h8, hr⟩

end

theorem walk (a0 a1 : Int) (a2 : Option Addr) (len2 cap2 : Nat) (w : World) (w2 : IsOps w a2 len2) :
    Calls Tryz.prog 3 #[.int .i64 a0, .int .i64 a1, .slice a2 len2 cap2] w fun e w' => e = .returned (.bool true) ∧ Below w.heap.size w w' := by
  by_cases h : 1 ≤ a0 ∧ a0 ≤ 4096 ∧ 1 ≤ a1 ∧ a1 ≤ 4096 ∧ len2 ≤ 300
  · obtain ⟨h1, h2, h3, h4, h5⟩ := h
    obtain ⟨n1, rfl⟩ : ∃ n : Nat, a0 = n := ⟨a0.toNat, by omega⟩
    obtain ⟨n2, rfl⟩ : ∃ n : Nat, a1 = n := ⟨a1.toNat, by omega⟩
    rcases w2 with h0 | ⟨lb, lo, O, rfl, hO⟩
    · subst h0
      exact (alone_core n1 n2 ⟨by omega, by omega⟩ ⟨by omega, by omega⟩ 0 0 0 cap2 (fun _ => default) w (fun i hi => absurd hi (Nat.not_lt_zero _)) h5 a2 (fun hi => absurd hi (Nat.lt_irrefl _))).mono fun _ _ h => ⟨h.1, h.2.below⟩
    · exact (alone_core n1 n2 ⟨by omega, by omega⟩ ⟨by omega, by omega⟩ lb lo len2 cap2 O w hO h5 _ (fun _ => rfl)).mono fun _ _ h => ⟨h.1, h.2.below⟩
  · exact (alone_none a0 a1 a2 len2 cap2 w h).mono fun _ _ h => ⟨h.1, h.2.below⟩

/-- The door's own heap meets the condition. -/
theorem door_met (os : Os) (args : Array Value) : laidMetH Tryz.prog Rows.poolAloneRow.laid ((World.doorLaid Tryz.prog 400 os).forCall (fun _ _ => 0) ⟨#[], args, []⟩).memory :=
  laidMetH_of_parts3 (fuel := 8) (laidMet_of_run' 8 (by kernel_rfl) (by kernel_rfl)) (by kernel_rfl) (by kernel_rfl)

set_option maxRecDepth 100000 in
theorem lifted (os : Os) (started : os.Started) (H : Type) (enc : TypeId × Value → H) :
    ReturnsInHanded {} Tryz.checked os 3 .any (fun w args => (Rows.poolAloneSpec.pre enc Tryz.prog Tryz.f3 [] false w args ∧ laidMetH Tryz.prog Rows.poolAloneRow.laid w) ∧ sizedMet enc Tryz.prog Tryz.f3 (OpenSpec.ofChange Rows.poolAloneSpec) false w args)
      (Rows.poolAloneSpec.post enc Tryz.prog Tryz.f3 false true false false) := by
  refine returnsInHanded_of_change_and (C := Tryz.checked) (X := fun w _ => laidMetH Tryz.prog Rows.poolAloneRow.laid w) (fun _ _ _ hh h => h.of_heap hh) own started (by kernel_rfl) Tryz.func3
    (ChangeSpec.witness_shaped (enc := enc) (C := Tryz.checked) (os := os) (X := fun w _ => laidMetH Tryz.prog Rows.poolAloneRow.laid w) false (World.doorLaid Tryz.prog 400 os) #[.int .i64 0, .int .i64 0, .slice none 0 0] 8 rfl (World.shaped_of_RefB (by kernel_rfl) (by kernel_rfl)) (by kernel_rfl) (by kernel_rfl) (by kernel_rfl) (door_met os _)) ?_
  intro W base args ds gs before hval0 hW _ _ hL _
  have hval : ∀ (j : Nat) t v, Tryz.f3.params[j]? = some t → args[j]? = some v → Value.okWide Tryz.prog W .any base t v := hval0
  have hW' := hW
  obtain ⟨p, q, hA0, hV, rfl, hfz, hnd⟩ := hW
  have hA : DataW.TrodAll enc Tryz.prog W 0 (fun _ => true) true Tryz.f3.params.toList args.toList ds p := hA0
  rw [Tryz.params3] at hA hval
  obtain ⟨v0, vs0, d0, ds0, p0, q0, hargs, rfl, rfl, h0, r0⟩ := trodAll_cons hA
  obtain ⟨v1, vs1, d1, ds1, p1, q1, rfl, rfl, rfl, h1, r1⟩ := trodAll_cons r0
  obtain ⟨v2, vs2, d2, ds2, p2, q2, rfl, rfl, rfl, h2, r2⟩ := trodAll_cons r1
  obtain ⟨rfl, rfl, rfl⟩ := trodAll_nil r2
  obtain rfl : args = #[v0, v1, v2] := by cases args; simp_all
  obtain ⟨rfl, rfl⟩ := trodVars_none hV
  obtain ⟨a0, rfl, rfl, rfl, w0⟩ := open_int Tryz.underlying3 (hval 0 3 v0 rfl rfl) h0
  obtain ⟨a1, rfl, rfl, rfl, w1⟩ := open_int Tryz.underlying3 (hval 1 3 v1 rfl rfl) h1
  obtain ⟨a2, len2, cap2, rfl⟩ := okWide_slice Tryz.underlying22 (hval 2 22 v2 rfl rfl)
  have k2 := h2
  have lt2 : ∀ x ∈ p2, x.block < W.heap.size := by obtain ⟨m, hm⟩ := k2; exact DataW.trod_lt m _ _ _ hm
  have w2 : IsOps W a2 len2 := by
    obtain ⟨fuel, hf⟩ := h2
    exact ops_of hf
  clear hA0 hval0
  refine (walk a0 a1 a2 len2 cap2 W w2).mono fun e W' ⟨he, bel⟩ => ?_
  subst he
  exact ⟨_, rfl, _, _, _, [], _, [], hW', trodAll_mk1 (shut_bool Tryz.underlying4 _), (trodAll_cons_mk (shut_int Tryz.underlying3 w0) (trodAll_cons_mk (shut_int Tryz.underlying3 w1) (trodAll_cons_mk (Below.trod laidOut (by kernel_rfl) (of_decide_eq_true (by kernel_rfl)) k2 bel lt2) trodAll_mk0))), rfl, bel.frame _, fun h => by cases h⟩

theorem over : Rows.poolAloneRow.holds Tryz.pinned (OpenSpec.ofChange Rows.poolAloneSpec) :=
  OpenClaim.holds_of_wide 3 Tryz.f3 rfl rfl rfl rfl rfl rfl rfl ⟨rfl, rfl, rfl, rfl, rfl⟩ rfl rfl rfl rfl rfl (by kernel_rfl) Tryz.func3 (by kernel_rfl)
    (of_decide_eq_true (by kernel_rfl)) (by unfold Func.isWrapper; first | (rw [if_pos (by decide +kernel)]; kernel_rfl) | (rw [if_neg (by decide +kernel)]; exact ⟨rfl, rfl⟩))
    (fun os started H enc _ => lifted os started H enc)

/-- ████ THE STATEMENT ████ -/
theorem proved : Rows.PoolAloneCardSaid :=
  Claim7.holds_tied_plain_at .later [] [.data, .data, .data] true (true, "32c1a0ba286a18b112cc31431e9937bef10d3d457f86a9ecff60687229aa37b5") false
    over (fun _ h => by cases h) (by kernel_rfl) (fun _ h => by cases h) poolAlone_row_tie rfl ⟨rfl, rfl⟩ (by kernel_rfl) rfl
    (fun f fn hf hfn => by
      obtain rfl : f = 3 := Option.some.inj ((show Tryz.prog.funcNamed "skein/skeinlaw10.PoolAlone" = some 3 by kernel_rfl).symm.trans hf) |>.symm
      obtain rfl : fn = Tryz.f3 := (Option.some.inj (Tryz.func3.symm.trans hfn)).symm
      exact ⟨by kernel_rfl, fun j t ht => by
        rw [Tryz.params3] at ht
        rcases j with _ | _ | _ | j
        · obtain rfl : t = 3 := by simpa using ht.symm
          exact (show Tryz.prog.wantsStandIn 3 = false by kernel_rfl)
        · obtain rfl : t = 3 := by simpa using ht.symm
          exact (show Tryz.prog.wantsStandIn 3 = false by kernel_rfl)
        · obtain rfl : t = 22 := by simpa using ht.symm
          exact (show Tryz.prog.wantsStandIn 22 = false by kernel_rfl)
        · simp at ht⟩)
    (by kernel_rfl)
#print axioms proved
end Go.Proofs.YtpknnamficegbaaGreatDoor.poolAlone

