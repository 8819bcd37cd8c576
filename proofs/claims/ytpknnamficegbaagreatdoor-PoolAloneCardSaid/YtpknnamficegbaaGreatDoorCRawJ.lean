/- A pool, alone, its pile linked anyhow: Back, Look. Condition: the pool stands in memory as PoolR says. -/
import Derived.Test.YtpknnamficegbaaGreatDoorCRawX
import Derived.Test.YtpknnamficegbaaGreatDoorCRawK
import Derived.Test.YtpknnamficegbaaGreatDoorCRawY
set_option linter.unusedVariables false
set_option linter.unusedSimpArgs false
set_option linter.unusedSectionVars false
set_option linter.unnecessarySimpa false
namespace Go.Proofs.YtpknnamficegbaaGreatDoor
open Go.RowKit

set_option maxHeartbeats 1000000 in
theorem rpool_back_gone (A : PA) (n i hd : Nat) (S : Nat → Sl) (t : Int) (nx : List Int) (fa gen : Int) (w : World) (H : PoolR w A n S hd t nx fa) (h1 : 1 ≤ i) (h2 : i ≤ n) (h3 : 0 ≤ gen) (h4 : gen % 2 = 0) (hS : ¬ (S i).gen = gen) :
    Calls Tryz.prog 32 #[.pointer (some ⟨A.p, 0, none⟩), .pointer none, .int .i64 (i : Nat), .int .i64 gen] w fun e w' => e = .returned (.int .i64 104) ∧ w = w' := by
  have hm := H.many
  have hs0 : w.cell? ⟨A.p, 0, none⟩ = some (.slice (some ⟨A.sb, 0, none⟩) (n + 1) (n + 1)) := H.head.cell 0 rfl
  have g0 := H.row.slot i 0 (by omega) (slot_room h2)
  rw [show (S i).get 0 = (S i).gen from rfl, Nat.add_zero] at g0
  have f0 := H.row.free (i * 7)
  have h5 : gen.tmod 2 = 0 := by rw [Int.tmod_eq_emod_of_nonneg h3]; exact h4
  obtain ⟨gn, hgn⟩ : ∃ gn, IntKind.i64.wrap (gen + 2) = gn := ⟨_, rfl⟩
  have hil : (i : Int) < (n : Int) + 1 := by omega
  have HS := Lib.hid hS
  clear H hS h4
  go_enter Tryz.func32, Tryz.ntmps32
  go_wp2_with fail
  refine (step_nil _).mono ?_
  rintro e w' ⟨rfl, rfl⟩
  go_wp2_with fail
  refine (cas_miss _ _ _ _ _ g0 f0 HS.out).mono ?_
  rintro e w' ⟨rfl, rfl⟩
  go_wp2_with fail
  go_ret
  exact ⟨rfl, rfl⟩

set_option maxHeartbeats 1000000 in
theorem rpool_back_bad (A : PA) (n hd : Nat) (S : Nat → Sl) (t : Int) (nx : List Int) (fa i gen : Int) (w : World) (H : PoolR w A n S hd t nx fa) (hb : i < 1 ∨ (n : Int) < i ∨ gen < 0 ∨ gen % 2 = 1) :
    Calls Tryz.prog 32 #[.pointer (some ⟨A.p, 0, none⟩), .pointer none, .int .i64 i, .int .i64 gen] w fun e w' => e = .returned (.int .i64 103) ∧ w = w' := by
  have hm := H.many
  have hs0 : w.cell? ⟨A.p, 0, none⟩ = some (.slice (some ⟨A.sb, 0, none⟩) (n + 1) (n + 1)) := H.head.cell 0 rfl
  clear H
  by_cases h1 : i < 1
  · clear hb
    go_enter Tryz.func32, Tryz.ntmps32
    go_wp2_with fail
    refine (step_nil _).mono ?_
    rintro e w' ⟨rfl, rfl⟩
    go_wp2_with fail
    go_ret
    exact ⟨rfl, rfl⟩
  · by_cases h2 : (n : Int) + 1 ≤ i
    · clear hb
      go_enter Tryz.func32, Tryz.ntmps32
      go_wp2_with fail
      refine (step_nil _).mono ?_
      rintro e w' ⟨rfl, rfl⟩
      go_wp2_with fail
      go_ret
      exact ⟨rfl, rfl⟩
    · by_cases h3 : gen < 0
      · clear hb
        go_enter Tryz.func32, Tryz.ntmps32
        go_wp2_with fail
        refine (step_nil _).mono ?_
        rintro e w' ⟨rfl, rfl⟩
        go_wp2_with fail
        go_ret
        exact ⟨rfl, rfl⟩
      · have h4 : gen.tmod 2 = 1 := by
          rw [Int.tmod_eq_emod_of_nonneg (by omega)]
          omega
        clear hb
        go_enter Tryz.func32, Tryz.ntmps32
        go_wp2_with fail
        refine (step_nil _).mono ?_
        rintro e w' ⟨rfl, rfl⟩
        go_wp2_with fail
        go_ret
        exact ⟨rfl, rfl⟩

set_option maxHeartbeats 1000000 in
theorem rpool_back (A : PA) (n i hd : Nat) (S : Nat → Sl) (t : Int) (nx : List Int) (fa gen : Int) (w : World) (H : PoolR w A n S hd t nx fa) (h1 : 1 ≤ i) (h2 : i ≤ n) (h3 : 0 ≤ gen) (h4 : gen % 2 = 0) (hS : (S i).gen = gen) (hg : gen ≤ 1000000000000) (ht : t + 1 ≤ 1000000000000) :
    Calls Tryz.prog 32 #[.pointer (some ⟨A.p, 0, none⟩), .pointer none, .int .i64 (i : Nat), .int .i64 gen] w fun e w' => e = .returned (.int .i64 0) ∧ PoolR w' A n (upS S i { S i with gen := gen + 2 }) i (t + 1) (nx.set i (hd : Nat)) fa ∧ Only A.all w w' := by
  have hm := H.many
  have hs0 : w.cell? ⟨A.p, 0, none⟩ = some (.slice (some ⟨A.sb, 0, none⟩) (n + 1) (n + 1)) := H.head.cell 0 rfl
  have g0 := H.row.slot i 0 (by omega) (slot_room h2)
  rw [show (S i).get 0 = (S i).gen from rfl, Nat.add_zero, hS] at g0
  have f0 := H.row.free (i * 7)
  have h5 : gen.tmod 2 = 0 := by rw [Int.tmod_eq_emod_of_nonneg h3]; exact h4
  have hgn : IntKind.i64.wrap (gen + 2) = gen + 2 := IntWalk.i64_in _ ⟨by omega, by omega⟩
  have hil : (i : Int) < (n : Int) + 1 := by omega
  have HH := Lib.hid H
  obtain ⟨S5, hS5⟩ : ∃ S5, upS S i { S i with gen := gen + 2 } = S5 := ⟨_, rfl⟩
  rw [hS5]
  have HS5 := Lib.hid hS5
  clear H hS h4 hS5
  go_enter Tryz.func32, Tryz.ntmps32
  go_wp2_with fail
  refine (step_nil _).mono ?_
  rintro e w' ⟨rfl, rfl⟩
  go_wp2_with fail
  refine (cas_hit _ _ _ _ g0 f0).mono ?_
  rintro e w1 ⟨rfl, hw⟩
  have hP1 := HH.out.gen (i := i) (gen + 2) hw
  rw [HS5.out] at hP1
  have hp1 : w1.cell? ⟨A.p, 1, none⟩ = some (.pointer (some ⟨A.pb, 0, none⟩)) := hP1.1.head.cell 1 rfl
  have HP1 := Lib.hid hP1
  clear hP1 hw
  go_wp2_with fail
  refine (rpush A.pb A.nb n i hd t nx w1 HP1.out.1.pile ht ⟨h1, h2⟩).mono ?_
  rintro e w2 ⟨rfl, hp, o⟩
  have h2 := HP1.out.1.piled hp o
  have HP2 := Lib.hid (And.intro h2.1 (HP1.out.2.trans h2.2))
  clear h2 hp o hp1
  go_wp2_with fail
  go_ret
  exact ⟨rfl, HP2.out⟩

set_option maxHeartbeats 400000 in
theorem rpool_look (A : PA) (n hd : Nat) (S : Nat → Sl) (t : Int) (nx : List Int) (fa : Int) (w : World) (H : PoolR w A n S hd t nx fa) :
    Calls Tryz.prog 87 #[.pointer (some ⟨A.p, 0, none⟩), .pointer none] w fun e w' => ∃ v, e = .returned v ∧ w'.ownsRow w.heap.size 3 1 v (trail n nx hd).length ((trail n nx hd).map fun x => Value.int .i64 (x : Nat)) ∧ Only [] w w' := by
  have hc : w.cell? ⟨A.p, 1, none⟩ = some (.pointer (some ⟨A.pb, 0, none⟩)) := H.head.cell 1 rfl
  have HPL := Lib.hid (rpile_look A.pb A.nb n hd t nx w H.pile)
  generalize trail n nx hd = L at *
  clear H
  go_enter Tryz.func87, Tryz.ntmps87
  go_wp2_with fail
  refine HPL.out.mono ?_
  rintro e w1 ⟨v, rfl, hown, hO⟩
  have HO := Lib.hid (And.intro hown hO)
  clear hown hO
  go_wp2_with fail
  go_ret
  exact ⟨_, rfl, HO.out⟩

end Go.Proofs.YtpknnamficegbaaGreatDoor

