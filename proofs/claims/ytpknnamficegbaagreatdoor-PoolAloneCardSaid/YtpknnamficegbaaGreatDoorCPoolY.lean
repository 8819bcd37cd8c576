/- A pool, alone: Give, Take, New as calls. Condition: the pool stands in memory as PoolAt says. · A pool, alone: Take, New as calls. Condition: the pool stands in memory as PoolAt says. · Which places came already: sixty-five words of bits (pile's met), as a value; with, and the comparison of two, as calls. No condition but the place's range. -/
import Derived.Test.YtpknnamficegbaaGreatDoorCPile
import Derived.Test.YtpknnamficegbaaGreatDoorCRow
import Derived.Test.YtpknnamficegbaaGreatDoorCPoolX
set_option linter.unusedVariables false
set_option linter.unusedSimpArgs false
set_option linter.unusedSectionVars false
set_option linter.unnecessarySimpa false
namespace Go.Proofs.YtpknnamficegbaaGreatDoor
open Go.RowKit

def poison : Int := -7777777
/-- A slot that was given back. -/
def poisoned (g : Int) : Sl := ⟨g, -7777777, -7777777, -7777777, -7777777, -7777777, -7777777⟩

theorem PoolAt.gen {w w1 : World} {A : PA} {n i : Nat} {S : Nat → Sl} {t : Int} {fs : List Nat} {fa : Int} (H : PoolAt w A n S t fs fa) (x : Int) (hw : w.setCell ⟨A.sb, i * 7, none⟩ (.int .i64 x) = w1) : PoolAt w1 A n (upS S i { S i with gen := x }) t fs fa ∧ Only A.all w w1 := by
  have hr := H.row.put i 0 x { S i with gen := x } (by omega) rfl (by intro k hk hn; match k, hk, hn with | 1, _, _ => rfl | 2, _, _ => rfl | 3, _, _ => rfl | 4, _, _ => rfl | 5, _, _ => rfl | 6, _, _ => rfl) hw
  have o : Only [A.sb] w w1 := hw ▸ Only.setCell _ (by simp) _
  exact ⟨H.slots hr o, o.mono (by simp [PA.all])⟩

theorem PoolAt.piled {w w1 : World} {A : PA} {n : Nat} {S : Nat → Sl} {t t' : Int} {fs fs' : List Nat} {nx : List Int} {fa : Int} (H : PoolAt w A n S t fs fa) (hp : PileAt w1 A.pb A.nb n t' fs' nx) (o : Only [A.pb, A.nb] w w1) : PoolAt w1 A n S t' fs' fa ∧ Only A.all w w1 := by
  have ha := H.apart
  exact ⟨⟨H.head.only o (by simp [ha.2.1, ha.2.2.1]), H.row.only o (by simp [ha.2.2.2.1, ha.2.2.2.2]), ⟨nx, hp⟩, ha⟩, o.mono (by simp [PA.all])⟩

set_option maxHeartbeats 400000 in
theorem pool_give_bad (A : PA) (n : Nat) (S : Nat → Sl) (t : Int) (fs : List Nat) (fa h : Int) (w : World) (H : PoolAt w A n S t fs fa) (hb : ¬ isHandle n h) :
    Calls Tryz.prog 13 #[.pointer (some ⟨A.p, 0, none⟩), .pointer none, .int .i64 h] w fun e w' => e = .returned (.int .i64 103) ∧ w = w' := by
  have hA := Lib.hid (pool_at_bad A n S t fs fa h w H hb)
  clear H hb
  go_enter Tryz.func13, Tryz.ntmps13
  go_wp2_with fail
  refine (step_nil _).mono ?_
  rintro e w' ⟨rfl, rfl⟩
  go_wp2_with fail
  refine hA.out.mono ?_
  rintro e w' ⟨rfl, rfl⟩
  go_wp2_with fail
  go_ret
  exact ⟨rfl, rfl⟩

set_option maxHeartbeats 400000 in
theorem pool_give_gone (A : PA) (n i : Nat) (S : Nat → Sl) (t : Int) (fs : List Nat) (fa h g : Int) (w : World) (H : PoolAt w A n S t fs fa) (h1 : 1 ≤ i) (h2 : i ≤ n) (hi : idxOf h = i) (hg : tagOf h = g) (ho : g % 2 = 1) (hS : ¬ (S i).gen = g) :
    Calls Tryz.prog 13 #[.pointer (some ⟨A.p, 0, none⟩), .pointer none, .int .i64 h] w fun e w' => e = .returned (.int .i64 104) ∧ w = w' := by
  have hA := Lib.hid (pool_at A n i S t fs fa h g w H h1 h2 hi hg ho)
  have hc := H.row.slot i 0 (by omega) (slot_room h2)
  rw [show (S i).get 0 = (S i).gen from rfl] at hc
  have hf := H.row.free (i * 7 + 0)
  have htr := tagOf_range h
  rw [hg] at htr
  obtain ⟨hg0, hg1⟩ := htr
  have HS := Lib.hid hS
  clear H hi hg ho hS
  go_enter Tryz.func13, Tryz.ntmps13
  go_wp2_with fail
  refine (step_nil _).mono ?_
  rintro e w' ⟨rfl, rfl⟩
  go_wp2_with fail
  refine hA.out.mono ?_
  rintro e w' ⟨rfl, rfl⟩
  go_wp2_with fail
  refine (cas_miss _ _ _ _ _ hc hf HS.out).mono ?_
  rintro e w' ⟨rfl, rfl⟩
  go_wp2_with fail
  go_ret
  exact ⟨rfl, rfl⟩

set_option maxHeartbeats 1600000 in
theorem pool_give (A : PA) (n i : Nat) (S : Nat → Sl) (t : Int) (fs : List Nat) (fa h g : Int) (w : World) (H : PoolAt w A n S t fs fa) (h1 : 1 ≤ i) (h2 : i ≤ n) (hi : idxOf h = i) (hg : tagOf h = g) (ho : g % 2 = 1) (hS : (S i).gen = g) (hfs : i ∉ fs) (ht : t + 1 ≤ 1000000000000) :
    Calls Tryz.prog 13 #[.pointer (some ⟨A.p, 0, none⟩), .pointer none, .int .i64 h] w fun e w' => e = .returned (.int .i64 0) ∧ PoolAt w' A n (upS S i (poisoned (g + 1))) (t + 1) (i :: fs) fa ∧ Only A.all w w' := by
  have hA := Lib.hid (pool_at A n i S t fs fa h g w H h1 h2 hi hg ho)
  have hc := H.row.slot i 0 (by omega) (slot_room h2)
  rw [show (S i).get 0 = g from hS] at hc
  have hf := H.row.free (i * 7 + 0)
  have htr := tagOf_range h
  rw [hg] at htr
  obtain ⟨hg0, hg1⟩ := htr
  have hW := Lib.hid (fun w1 => PoolAt.gen (w1 := w1) (i := i) H (g + 1))
  have hI := Lib.hid (fun w => word_idx h w)
  rw [hi] at hI
  clear H hi hg ho hS
  go_enter Tryz.func13, Tryz.ntmps13
  go_wp2_with fail
  refine (step_nil _).mono ?_
  rintro e w' ⟨rfl, rfl⟩
  go_wp2_with fail
  refine hA.out.mono ?_
  rintro e w' ⟨rfl, rfl⟩
  go_wp2_with fail
  refine (cas_hit _ _ _ _ hc hf).mono ?_
  rintro e w1 ⟨rfl, hw⟩
  obtain ⟨hP, hO⟩ := hW.out w1 hw
  clear hw hc hf hA hW
  go_wp2_with fail
  refine calls_name (fun w2 => PoolAt w2 A n (upS S i { S i with gen := g + 1 }) t fs fa ∧ Blk w2 w1.heap.size #[.int .i64 (-7777777), .int .i64 (-7777777), .int .i64 (-7777777), .int .i64 (-7777777)] 43 ∧ Only A.all w w2 ∧ w2.heap.size = w1.heap.size + 1) ⟨hP.only (Only.alloc [] _ _) (by simp), Blk.new _ _ _, hO.trans (Only.alloc _ _ _), by simp⟩ ?_
  rintro w2 ⟨hP2, hB2, hO2, hz2⟩
  have hsz := hO.size
  clear hP hO
  have HZ2 := Lib.hid hz2
  clear hz2
  refine (slot_holds _ _ i _ _ hP2.row (slot_room h2)).mono ?_
  rw [upS_same]
  rintro e w3 ⟨rfl, hX⟩
  have hP3 := hP2.only hX (by simp)
  have hB3 := hB2.only hX (by simp)
  have hO3 := hO2.trans (hX.mono (by simp))
  have hz3 := hX.size
  clear hP2 hB2 hO2 hX
  generalize hb9 : w1.heap.size = b9 at *
  have HB9 := Lib.hid hb9
  clear hb9
  have hb3 := hB3.lt
  generalize hxa : (S i).a = xa at *
  generalize hxb : (S i).b = xb at *
  generalize hxc : (S i).c = xc at *
  generalize hxd : (S i).d = xd at *
  have HXA := Lib.hid hxa
  have HXB := Lib.hid hxb
  have HXC := Lib.hid hxc
  have HXD := Lib.hid hxd
  clear hxa hxb hxc hxd
  go_upto_region 9 with fail
  refine wp_name (fun w4 => PoolAt w4 A n (upS S i { S i with gen := g + 1 }) t fs fa ∧ Blk w4 b9 #[.int .i64 (-7777777), .int .i64 (-7777777), .int .i64 (-7777777), .int .i64 (-7777777)] 43 ∧ Blk w4 w3.heap.size #[.int .i64 xa, .int .i64 xb, .int .i64 xc, .int .i64 xd] 43 ∧ Only A.all w w4) ⟨?_, hB3.alloc _, Blk.new _ _ _, hO3.trans (Only.alloc _ _ _)⟩ ?_
  · exact hP3.only (Only.alloc [] _ _) (by simp)
  generalize w3.heap.size = b10
  clear hP3 hB3 hO3 hb3 hz3 w3
  rintro w4 ⟨hP4, hB4, hC4, hO4⟩
  have p0 := hB4.cell 0 rfl
  have p1 := hB4.cell 1 rfl
  have p2 := hB4.cell 2 rfl
  have p3 := hB4.cell 3 rfl
  have q0 := hC4.cell 0 rfl
  have q1 := hC4.cell 1 rfl
  have q2 := hC4.cell 2 rfl
  have q3 := hC4.cell 3 rfl
  go_cut [36] (fun s36 wc => wc = w4 ∧ ∃ bb : Bool, s36 = .bool bb ∧ Hid (bb = false → xa = -7777777 ∧ xb = -7777777 ∧ xc = -7777777 ∧ xd = -7777777))
  case first =>
    go_wp2_with fail
    all_goals
      go_meet
      first | exact ⟨trivial, true, rfl, fun h => by cases h⟩ | exact ⟨trivial, false, rfl, fun _ => ⟨by assumption, by assumption, by assumption, by assumption⟩⟩ | exact ⟨rfl, true, rfl, fun h => by cases h⟩ | exact ⟨rfl, false, rfl, fun _ => ⟨by assumption, by assumption, by assumption, by assumption⟩⟩
  case rest =>
    obtain ⟨rfl, bb, rfl, HBB⟩ := hcut
    clear q0 q1 q2 q3 hC4
    go_upto_if 36 with fail
    go_cut [36] (fun s36 wc => ∃ m l : Int, PoolAt wc A n (upS S i ⟨g + 1, m, l, -7777777, -7777777, -7777777, -7777777⟩) t fs fa ∧ Only A.all w wc)
    case first =>
      cases bb
      · go_wp2_with fail
        go_meet
        case rel =>
          obtain ⟨ea, eb, ec, ed⟩ := HBB.out (by first | trivial | rfl)
          refine ⟨(S i).mark, (S i).link, ?_, hO4⟩
          have e : ({ S i with gen := g + 1 } : Sl) = ⟨g + 1, (S i).mark, (S i).link, -7777777, -7777777, -7777777, -7777777⟩ := by
            show (⟨g + 1, (S i).mark, (S i).link, (S i).a, (S i).b, (S i).c, (S i).d⟩ : Sl) = _
            rw [HXA.out.trans ea, HXB.out.trans eb, HXC.out.trans ec, HXD.out.trans ed]
          rw [e] at hP4
          exact hP4
      · go_wp2_with fail
        refine (slot_lays _ _ i _ _ _ _ _ _ _ _ hP4.row (slot_room h2)).mono ?_
        rw [upS_same, upS_upS]
        rintro e w5 ⟨rfl, hR5, hX5⟩
        have hP5 := hP4.slots hR5 hX5
        have hO5 := hO4.trans (hX5.mono (by simp [PA.all]))
        clear hP4 hO4 hR5 hX5 p0 p1 p2 p3
        go_wp2_with fail
        go_meet
        case rel => exact ⟨_, _, hP5, hO5⟩
    case rest =>
      obtain ⟨m, l, hP5, hO5⟩ := hcut
      clear hP4 hO4 p0 p1 p2 p3
      have hc := hP5.row.slot i 1 (by omega) (slot_room h2)
      rw [upS_same] at hc
      go_wp2_with fail
      refine (store_any _ _ _ _ hc (hP5.row.free _)).mono ?_
      rintro e w6 ⟨rfl, hw⟩
      obtain ⟨hP6, hX6⟩ := hP5.marked (i := i) (-7777777) hw
      rw [upS_same, upS_upS] at hP6
      have hO6 := hO5.trans hX6
      clear hP5 hO5 hX6 hw hc
      have hc := hP6.row.slot i 2 (by omega) (slot_room h2)
      rw [upS_same] at hc
      go_wp2_with fail
      refine (store_any _ _ _ _ hc (hP6.row.free _)).mono ?_
      rintro e w7 ⟨rfl, hw⟩
      obtain ⟨hP7, hX7⟩ := hP6.linkd (i := i) (-7777777) hw
      rw [upS_same, upS_upS] at hP7
      have hO7 := hO6.trans hX7
      clear hP6 hO6 hX7 hw hc
      have hp1 : w7.cell? ⟨A.p, 1, none⟩ = some (.pointer (some ⟨A.pb, 0, none⟩)) := hP7.head.cell 1 rfl
      obtain ⟨nx, hPi⟩ := hP7.pile
      have HPU := Lib.hid (fun w => pile_push A.pb A.nb n i t fs nx w)
      have HPI := Lib.hid (hPi.only (Only.drew [] w7) (by simp) (by simp))
      have HP7 := Lib.hid hP7
      clear hPi hP7
      go_upto_region 13 with fail
      go_cut [6] (fun s6 wc => s6 = .int .i64 0 ∧ PoolAt wc A n (upS S i (poisoned (g + 1))) (t + 1) (i :: fs) fa ∧ Only A.all w wc)
      case first =>
        go_region_with (first | (go_at_call 66; refine (hI.out _).mono ?_; rintro e w' ⟨rfl, rfl⟩) | (go_at_call 65; refine (HPU.out w7.drew HPI.out ht hfs ⟨h1, h2⟩).mono ?_; rintro e w8 ⟨rfl, hP8, hX8⟩))
        all_goals (go_wp2_with fail; go_meet)
        all_goals exact ⟨rfl, (HP7.out.piled hP8 ((Only.drew _ w7).trans hX8)).1, hO7.trans (HP7.out.piled hP8 ((Only.drew _ w7).trans hX8)).2⟩
      case rest =>
        obtain ⟨rfl, hP8, hO8⟩ := hcut
        go_wp2_with fail
        go_ret
        exact ⟨rfl, hP8, hO8⟩

set_option maxHeartbeats 1000000 in
theorem pool_take1 (A : PA) (n i : Nat) (S : Nat → Sl) (t : Int) (fs : List Nat) (fa a b c d l : Int) (pB xB lB hB : Nat) (w : World) (H : PoolAt w A n S t fs fa) (h1 : 1 ≤ i) (h2 : i ≤ n) (hg : 0 ≤ (S i).gen ∧ (S i).gen ≤ 1000000000000)
    (hp : Blk w pB #[.pointer (some ⟨A.p, 0, none⟩)] 49) (hx : Blk w xB #[.int .i64 a, .int .i64 b, .int .i64 c, .int .i64 d] 43) (hl : Blk w lB #[.int .i64 l] 3) (hh : Blk w hB #[.int .i64 0] 3)
    (hnA : pB ∉ A.all ∧ xB ∉ A.all ∧ lB ∉ A.all ∧ hB ∉ A.all) (hap : pB ≠ hB ∧ xB ≠ hB ∧ lB ≠ hB) :
    Calls Tryz.prog 57 #[.int .i64 i, .pointer (some ⟨pB, 0, none⟩), .pointer (some ⟨xB, 0, none⟩), .pointer (some ⟨lB, 0, none⟩), .pointer (some ⟨hB, 0, none⟩)] w fun e w' => e = .returned (.tuple #[]) ∧ PoolAt w' A n (upS S i ⟨(S i).gen + 1, 0, l, a, b, c, d⟩) t fs fa ∧ Blk w' hB #[.int .i64 (wd i ((S i).gen + 1))] 3 ∧ Only (hB :: A.all) w w' := by
  have hm := H.many
  have hil : (i : Int) < (n : Int) + 1 := by omega
  have hp0 := hp.cell 0 rfl
  have hs0 : w.cell? ⟨A.p, 0, none⟩ = some (.slice (some ⟨A.sb, 0, none⟩) (n + 1) (n + 1)) := H.head.cell 0 rfl
  have hx0 := hx.cell 0 rfl
  have hx1 := hx.cell 1 rfl
  have hx2 := hx.cell 2 rfl
  have hx3 := hx.cell 3 rfl
  have hl0 := hl.cell 0 rfl
  obtain ⟨hg0, hg1⟩ := hg
  have hs : (Op.intArith .add .i64 (S i).gen 1).run Tryz.prog w = .ok (.int .i64 ((S i).gen + 1)) w := by
    have : IntKind.i64.wrap ((S i).gen + 1) = (S i).gen + 1 := wraps_i64 _ (by omega) (by omega)
    simp [Op.intArith, this]
  have HS : Hid (∀ w, (Op.intArith .add .i64 (S i).gen 1).run Tryz.prog w = .ok (.int .i64 ((S i).gen + 1)) w) := by
    intro w
    have : IntKind.i64.wrap ((S i).gen + 1) = (S i).gen + 1 := wraps_i64 _ (by omega) (by omega)
    simp [Op.intArith, this]
  have HH := Lib.hid hh
  have HA := Lib.hid hnA
  have HC := Lib.hid hap
  have HP := Lib.hid H
  clear hs hh hnA hap H hp hx hl
  go_enter Tryz.func57, Tryz.ntmps57
  go_wp2_with fail
  refine (slot_lays _ _ i S a b c d 0 l _ HP.out.row (slot_room h2)).mono ?_
  rintro e w1 ⟨rfl, hR, hX⟩
  have hP1 := HP.out.slots hR hX
  have hO1 : Only (hB :: A.all) w w1 := hX.mono (by simp [PA.all])
  have hh1 := HH.out.only hX (by have := HA.out.2.2.2; simp [PA.all] at this; simp [this])
  have hs1 : w1.cell? ⟨A.sb, i * 7, none⟩ = some (.int .i64 (S i).gen) := by
    have := hP1.row.slot i 0 (by omega) (slot_room h2)
    rw [upS_same] at this
    exact this
  have hW := Lib.hid (fun w2 => PoolAt.gen (w1 := w2) (i := i) hP1 ((S i).gen + 1))
  have hf1 := hP1.row.free (i * 7)
  clear hR hX HP hp0 hs0 hx0 hx1 hx2 hx3 hl0
  go_wp2_with fail
  refine (add_any _ _ _ _ _ hs1 hf1 (HS.out _)).mono ?_
  rintro e w2 ⟨rfl, hw⟩
  obtain ⟨hP2, hX2⟩ := hW.out w2 hw
  rw [upS_same, upS_upS] at hP2
  have hO2 := hO1.trans (hX2.mono (by intro k hk; simp [hk]))
  have hh2 := hh1.only hX2 HA.out.2.2.2
  clear hW hw hX2 hP1 hO1 hh1 hs1 hf1
  go_wp2_with fail
  refine (word_pack _ _ _ (by omega) (by omega) (by omega) (by omega)).mono ?_
  rintro e w' ⟨rfl, rfl⟩
  have hc2 := hh2.cell 0 rfl
  have hf2 := hh2.free 0
  go_wp2_with fail
  go_end0
  have hX3 : Only [hB] w2 (w2.setCell ⟨hB, 0, none⟩ (.int .i64 (wd i ((S i).gen + 1)))) := Only.setCell _ (by simp) _
  refine ⟨rfl, hP2.only hX3 (by intro k hk; simp; rintro rfl; exact HA.out.2.2.2 hk), ?_, hO2.trans (hX3.mono (by simp))⟩
  have := hh2.set_same 0 (.int .i64 (wd i ((S i).gen + 1)))
  simpa using this

end Go.Proofs.YtpknnamficegbaaGreatDoor

namespace Go.Proofs.YtpknnamficegbaaGreatDoor
open Go.RowKit

theorem PoolAt.lt {w : World} {A : PA} {n : Nat} {S : Nat → Sl} {t : Int} {fs : List Nat} {fa : Int} (H : PoolAt w A n S t fs fa) : ∀ k, k ∈ A.all → k < w.heap.size := by
  intro k hk
  obtain ⟨nx, hp⟩ := H.pile
  have := H.head.lt; have := H.row.lt; have := hp.head.lt; have := hp.row.lt
  simp [PA.all] at hk
  omega

set_option maxHeartbeats 1000000 in
theorem pool_take (A : PA) (n i : Nat) (S : Nat → Sl) (t : Int) (r : List Nat) (fa a b c d l : Int) (w : World) (H : PoolAt w A n S t (i :: r) fa) (hg : 0 ≤ (S i).gen ∧ (S i).gen ≤ 1000000000000) (ht : t + 1 ≤ 1000000000000) :
    Calls Tryz.prog 12 #[.pointer (some ⟨A.p, 0, none⟩), .pointer none, .agg #[.int .i64 a, .int .i64 b, .int .i64 c, .int .i64 d], .int .i64 l] w fun e w' => e = .returned (.tuple #[.int .i64 (wd i ((S i).gen + 1)), .int .i64 0]) ∧ PoolAt w' A n (upS S i ⟨(S i).gen + 1, 0, l, a, b, c, d⟩) (t + 1) r fa ∧ Only A.all w w' := by
  have hmf : ∀ (fn : Fn) (first cap : Array Value) (w : World), (Instr.makeFunc fn first cap).run Tryz.prog w = .ok (.func fn first cap) w := fun _ _ _ _ => rfl
  have hlt := H.lt
  have hm := H.many
  have hir : 1 ≤ i ∧ i ≤ n := by
    obtain ⟨nx, hp⟩ := H.pile
    exact hp.range i (by simp)
  have hpA : A.p < w.heap.size := hlt _ (by simp [PA.all])
  have HL := Lib.hid hlt
  have hp1 : ∀ o1 o2 o3 o4 : Obj, ((((w.alloc o1).alloc o2).alloc o3).alloc o4).cell? ⟨A.p, 1, none⟩ = some (.pointer (some ⟨A.pb, 0, none⟩)) := fun o1 o2 o3 o4 => ((((H.head.alloc o1).alloc o2).alloc o3).alloc o4).cell 1 rfl
  have HH := Lib.hid H
  have HG := Lib.hid hg
  clear H hlt hg
  go_enter Tryz.func12, Tryz.ntmps12
  go_wp2_with fail
  refine calls_name (fun w1 => PoolAt w1 A n S t (i :: r) fa ∧ Blk w1 w.heap.size #[.pointer (some ⟨A.p, 0, none⟩)] 49 ∧ Blk w1 (w.heap.size + 1) #[.int .i64 a, .int .i64 b, .int .i64 c, .int .i64 d] 43 ∧ Blk w1 (w.heap.size + 2) #[.int .i64 l] 3 ∧ Blk w1 (w.heap.size + 3) #[.int .i64 0] 3 ∧ Only [] w w1) ⟨?_, ?_, ?_, ?_, ?_, ?_⟩ ?_
  · exact HH.out.only ((((Only.alloc [] _ _).trans (Only.alloc [] _ _)).trans (Only.alloc [] _ _)).trans (Only.alloc [] _ _)) (by simp)
  · exact (((Blk.new w _ _).alloc _).alloc _).alloc _
  · have := ((Blk.new (w.alloc (.cells #[.pointer (some ⟨A.p, 0, none⟩)] 49)) #[.int .i64 a, .int .i64 b, .int .i64 c, .int .i64 d] 43).alloc (.cells #[.int .i64 l] 3)).alloc (.cells #[.int .i64 0] 3)
    simpa using this
  · have := (Blk.new ((w.alloc (.cells #[.pointer (some ⟨A.p, 0, none⟩)] 49)).alloc (.cells #[.int .i64 a, .int .i64 b, .int .i64 c, .int .i64 d] 43)) #[.int .i64 l] 3).alloc (.cells #[.int .i64 0] 3)
    simpa using this
  · have := Blk.new (((w.alloc (.cells #[.pointer (some ⟨A.p, 0, none⟩)] 49)).alloc (.cells #[.int .i64 a, .int .i64 b, .int .i64 c, .int .i64 d] 43)).alloc (.cells #[.int .i64 l] 3)) #[.int .i64 0] 3
    simpa using this
  · exact (((Only.alloc [] _ _).trans (Only.alloc [] _ _)).trans (Only.alloc [] _ _)).trans (Only.alloc [] _ _)
  rintro w1 ⟨hP, hb0, hb1, hb2, hb3, hO⟩
  obtain ⟨nx, hPi⟩ := hP.pile
  have hn0 : ∀ j, w.heap.size + j ∉ A.all := fun j hj => by have := HL.out _ hj; omega
  refine (pile_pop A.pb A.nb n i t r nx _ _ _ _ (fun w3 => PoolAt w3 A n (upS S i ⟨(S i).gen + 1, 0, l, a, b, c, d⟩) (t + 1) r fa ∧ Blk w3 (w.heap.size + 3) #[.int .i64 (wd i ((S i).gen + 1))] 3 ∧ Only ((w.heap.size + 3) :: A.all) w w3) _ hPi ht ?_).mono ?_
  · intro w2 hQ hX
    have hP2 := (hP.piled hQ (hX.mono (by simp))).1
    have hnp : ∀ j, w.heap.size + j ∉ [A.pb] := fun j hj => hn0 j (by simp at hj; simp [PA.all, hj])
    refine (pool_take1 A n i S (t + 1) r fa a b c d l _ _ _ _ _ hP2 hir.1 hir.2 HG.out (hb0.only hX (hnp 0)) (hb1.only hX (hnp 1)) (hb2.only hX (hnp 2)) (hb3.only hX (hnp 3)) ⟨hn0 0, hn0 1, hn0 2, hn0 3⟩ ⟨by omega, by omega, by omega⟩).mono ?_
    rintro e w3 ⟨he, hP3, hh3, hX3⟩
    exact ⟨he, hP3, hh3, ((hO.mono (by simp)).trans (hX.mono (by simp [PA.all]))).trans hX3⟩
  rintro e w3 ⟨rfl, hP3, hh3, hO3⟩
  have hc := hh3.cell 0 rfl
  clear hPi hP hb0 hb1 hb2 hb3 hO hh3 hp1
  go_wp2_with fail
  go_ret2
  exact ⟨rfl, hP3, (Only.refl A.all w).past hO3 (by intro k hk; rcases List.mem_cons.1 hk with rfl | hk; exact Or.inr (by omega); exact Or.inl hk)⟩

set_option maxHeartbeats 1000000 in
theorem pool_take_full (A : PA) (n : Nat) (S : Nat → Sl) (t : Int) (fa a b c d l : Int) (w : World) (H : PoolAt w A n S t [] fa) :
    Calls Tryz.prog 12 #[.pointer (some ⟨A.p, 0, none⟩), .pointer none, .agg #[.int .i64 a, .int .i64 b, .int .i64 c, .int .i64 d], .int .i64 l] w fun e w' => e = .returned (.tuple #[.int .i64 0, .int .i64 102]) ∧ Only [] w w' := by
  have hmf : ∀ (fn : Fn) (first cap : Array Value) (w : World), (Instr.makeFunc fn first cap).run Tryz.prog w = .ok (.func fn first cap) w := fun _ _ _ _ => rfl
  have hpA : A.p < w.heap.size := H.lt _ (by simp [PA.all])
  have hp1 : ∀ o1 o2 o3 o4 : Obj, ((((w.alloc o1).alloc o2).alloc o3).alloc o4).cell? ⟨A.p, 1, none⟩ = some (.pointer (some ⟨A.pb, 0, none⟩)) := fun o1 o2 o3 o4 => ((((H.head.alloc o1).alloc o2).alloc o3).alloc o4).cell 1 rfl
  have HH := Lib.hid H
  clear H
  go_enter Tryz.func12, Tryz.ntmps12
  go_wp2_with fail
  have hO := (((Only.alloc [] w (.cells #[.pointer (some ⟨A.p, 0, none⟩)] 49)).trans (Only.alloc [] _ (.cells #[.int .i64 a, .int .i64 b, .int .i64 c, .int .i64 d] 43))).trans (Only.alloc [] _ (.cells #[.int .i64 l] 3))).trans (Only.alloc [] _ (.cells #[.int .i64 0] 3))
  have HO := Lib.hid hO
  clear hO
  refine calls_name (fun w1 => PoolAt w1 A n S t [] fa ∧ Only [] w w1) ⟨HH.out.only HO.out (by simp), HO.out⟩ ?_
  rintro w1 ⟨hP, hO⟩
  obtain ⟨nx, hPi⟩ := hP.pile
  refine (pile_pop_none A.pb A.nb n t nx _ _ hPi).mono ?_
  rintro e w' ⟨rfl, rfl⟩
  go_wp2_with fail
  go_ret2
  exact ⟨rfl, hO⟩

/-- 'make([]slot, n+1)'. -/
theorem make_slots (n : Nat) (h : n ≤ 5000) (w : World) : ∃ c : Array Value, c.size = (n + 1) * 7 ∧ (∀ j, j < (n + 1) * 7 → c[j]? = some (.int .i64 0)) ∧
    (Instr.makeSlice 97 (.int .i64 ((n : Int) + 1)) (.int .i64 ((n : Int) + 1))).run Tryz.prog w = .ok (.slice (some ⟨w.heap.size, 0, none⟩) (n + 1) (n + 1)) (w.alloc (.cells c 112)) := by
  obtain ⟨i, hi, hz, hs, hb⟩ := info_parts (P := Tryz.prog) (e := 112) (z := .agg #[.int .i64 0, .int .i64 0, .int .i64 0, .int .i64 0, .int .i64 0, .int .i64 0, .int .i64 0]) (size := 7) (bytes := 56) (by kernel_rfl)
  have hr := run_make (P := Tryz.prog) w 97 112 i _ Tryz.underlying97 hi hz .i64 .i64 ((n : Int) + 1) ((n : Int) + 1) (by omega) (Int.le_refl _) (by rw [hb]; omega) (by omega)
  have e : ((n : Int) + 1).toNat = n + 1 := by omega
  rw [e, hs] at hr
  refine ⟨_, ?_, ?_, hr⟩
  · exact size_madeCells _ _
  · intro j hj
    have hm : j % 7 < 7 := Nat.mod_lt _ (by omega)
    have key : ∀ k, k < 7 → (#[Value.int .i64 0, .int .i64 0, .int .i64 0, .int .i64 0, .int .i64 0, .int .i64 0, .int .i64 0] : Array Value)[k]! = .int .i64 0 := by
      intro k hk
      match k, hk with
      | 0, _ => rfl
      | 1, _ => rfl
      | 2, _ => rfl
      | 3, _ => rfl
      | 4, _ => rfl
      | 5, _ => rfl
      | 6, _ => rfl
    unfold madeCells
    rw [Array.getElem?_map, Array.getElem?_range, if_pos hj]
    simp only [Option.map_some, Option.some.injEq]
    exact key (j % 7) hm

/-- A slot that was never taken. -/
def slot0 : Sl := ⟨0, 0, 0, 0, 0, 0, 0⟩

theorem flat_slot0 (j : Nat) : flat (fun _ => slot0) j = 0 := by
  unfold flat
  have hm : j % 7 < 7 := Nat.mod_lt _ (by omega)
  generalize j % 7 = k at hm
  match k, hm with
  | 0, _ => rfl
  | 1, _ => rfl
  | 2, _ => rfl
  | 3, _ => rfl
  | 4, _ => rfl
  | 5, _ => rfl
  | 6, _ => rfl

set_option maxHeartbeats 800000 in
theorem pool_new (n : Nat) (h1 : 1 ≤ n) (h2 : n ≤ 4096) (w : World) :
    Calls Tryz.prog 9 #[.int .i64 n] w fun e w' => ∃ A : PA, e = .returned (.tuple #[.pointer (some ⟨A.p, 0, none⟩), .int .i64 0]) ∧ PoolAt w' A n (fun _ => slot0) 0 (List.range' 1 n) 0 ∧ Only [] w w' ∧ ∀ k, k ∈ A.all → w.heap.size ≤ k := by
  go_enter Tryz.func9, Tryz.ntmps9
  go_wp2_with fail
  refine (pile_new n h1 h2 w).mono ?_
  rintro e w1 ⟨rfl, hP, hO⟩
  obtain ⟨c, hcs, hcz, hmk⟩ := make_slots n (by omega) w1
  have HC := Lib.hid hcs
  have HZ := Lib.hid hcz
  clear hcs hcz
  have hsz := hO.size
  have hlp := hP.head.lt
  have hlq := hP.row.lt
  go_wp2_with fail
  go_ret2
  refine ⟨⟨w1.heap.size + 1, w1.heap.size, w.heap.size + 1, w.heap.size⟩, rfl, ⟨?_, ?_, ⟨_, hP.only ((Only.alloc [] _ _).trans (Only.alloc [] _ _)) (by simp) (by simp)⟩, ?_⟩, ?_, ?_⟩
  · have := Blk.new (w1.alloc (.cells c 112)) #[.slice (some ⟨w1.heap.size, 0, none⟩) (n + 1) (n + 1), .pointer (some ⟨w.heap.size + 1, 0, none⟩), .int .i64 0] 104
    simpa using this
  · refine RowI.of_blk ((Blk.new w1 c 112).alloc _) HC.out ?_
    intro j hj
    rw [flat_slot0]
    exact HZ.out j hj
  · refine ⟨?_, ?_, ?_, ?_, ?_⟩ <;> simp <;> omega
  · exact hO.trans ((Only.alloc [] _ _).trans (Only.alloc [] _ _))
  · intro k hk
    simp [PA.all] at hk
    omega

end Go.Proofs.YtpknnamficegbaaGreatDoor

namespace Go.Proofs.YtpknnamficegbaaGreatDoor
open Go.RowKit

/-- The bits of a word j that the places pre have set. -/
def bitsOf (pre : List Nat) (j : Nat) : Nat := pre.foldl (fun a x => if x / 64 = j then a ||| 2 ^ (x % 64) else a) 0

theorem bitsOf_snoc (pre : List Nat) (x j : Nat) : bitsOf (pre ++ [x]) j = if x / 64 = j then bitsOf pre j ||| 2 ^ (x % 64) else bitsOf pre j := by
  simp [bitsOf, List.foldl_append]

theorem bitsOf_lt (pre : List Nat) (j : Nat) : bitsOf pre j < 2 ^ 64 := by
  unfold bitsOf
  suffices h : ∀ (l : List Nat) (a : Nat), a < 2 ^ 64 → l.foldl (fun a x => if x / 64 = j then a ||| 2 ^ (x % 64) else a) a < 2 ^ 64 from h pre 0 (by decide)
  intro l
  induction l with
  | nil => intro a h; exact h
  | cons x l ih =>
    intro a h
    refine ih _ ?_
    dsimp only
    split
    · exact Nat.or_lt_two_pow h (Nat.pow_lt_pow_right (by decide) (Nat.mod_lt _ (by decide)))
    · exact h

theorem bitsOf_test (pre : List Nat) (j k : Nat) (h : (bitsOf pre j).testBit k = true) : ∃ x, x ∈ pre ∧ x / 64 = j ∧ x % 64 = k := by
  unfold bitsOf at h
  suffices hh : ∀ (l : List Nat) (a : Nat), (l.foldl (fun a x => if x / 64 = j then a ||| 2 ^ (x % 64) else a) a).testBit k = true → a.testBit k = true ∨ ∃ x, x ∈ l ∧ x / 64 = j ∧ x % 64 = k by
    rcases hh pre 0 h with h0 | h0
    · simp at h0
    · exact h0
  intro l
  induction l with
  | nil => intro a h; exact Or.inl h
  | cons x l ih =>
    intro a h
    rcases ih _ h with h0 | ⟨y, hy, hj⟩
    · dsimp only at h0
      split at h0
      · rename_i hx
        rw [Nat.testBit_or, Bool.or_eq_true, Nat.testBit_two_pow] at h0
        rcases h0 with h0 | h0
        · exact Or.inl h0
        · exact Or.inr ⟨x, by simp, hx, by simpa using h0⟩
      · exact Or.inl h0
    · exact Or.inr ⟨y, by simp [hy], hj⟩

theorem bitsOf_new {pre : List Nat} {x : Nat} (h : x ∉ pre) : bitsOf pre (x / 64) ||| 2 ^ (x % 64) ≠ bitsOf pre (x / 64) := by
  intro e
  have h1 : (bitsOf pre (x / 64) ||| 2 ^ (x % 64)).testBit (x % 64) = true := by
    rw [Nat.testBit_or, Nat.testBit_two_pow]; simp
  rw [e] at h1
  obtain ⟨y, hy, hj, hk⟩ := bitsOf_test _ _ _ h1
  have : y = x := by omega
  exact h (this ▸ hy)

/-- The value of the words. -/
def metV (pre : List Nat) : Array Value := ((List.range 65).map fun j => Value.int .u64 (bitsOf pre j)).toArray

theorem metV_size (pre : List Nat) : (metV pre).size = 65 := by simp [metV]
theorem metV_get (pre : List Nat) {j : Nat} (h : j < 65) : (metV pre)[j]? = some (.int .u64 (bitsOf pre j)) := by simp [metV, h]
theorem metV_one (pre : List Nat) : (metV pre).all (·.oneCell') = true := by
  rw [Array.all_eq_true_iff_forall_mem]
  intro v hv
  simp [metV] at hv
  obtain ⟨j, _, rfl⟩ := hv
  rfl

theorem metV_set (pre : List Nat) (x : Nat) : (metV pre).setIfInBounds (x / 64) (.int .u64 ((bitsOf pre (x / 64) ||| 2 ^ (x % 64) : Nat) : Int)) = metV (pre ++ [x]) := by
  apply Array.ext
  · simp [metV]
  · intro j h1 h2
    have hj : j < 65 := by simpa [metV] using h2
    rw [Array.getElem_setIfInBounds]
    · by_cases hx : x / 64 = j
      · subst hx
        simp [metV, bitsOf_snoc]
      · simp [hx, metV, bitsOf_snoc]
    · rw [metV_size]; exact hj

theorem metV_ne {pre : List Nat} {x : Nat} (h : x ∉ pre) (hx : x / 64 < 65) : ∃ j, j < 65 ∧ (∀ k, k < j → bitsOf (pre ++ [x]) k = bitsOf pre k) ∧ bitsOf (pre ++ [x]) j ≠ bitsOf pre j := by
  refine ⟨x / 64, hx, ?_, ?_⟩
  · intro k hk
    rw [bitsOf_snoc, if_neg (by omega)]
  · rw [bitsOf_snoc, if_pos rfl]
    exact bitsOf_new h

theorem met_zero (w : World) : (zeroValue 180).run Tryz.prog w = .ok (.agg (metV [])) w := by kernel_rfl

theorem bits_with (pre : List Nat) (x : Nat) : bits .or .u64 (bitsOf pre (x / 64)) (IntKind.u64.wrap (2 ^ ((x : Int) % 64).toNat)) = ((bitsOf pre (x / 64) ||| 2 ^ (x % 64) : Nat) : Int) := by
  have e : ((x : Int) % 64).toNat = x % 64 := by omega
  have hp : 2 ^ (x % 64) < 2 ^ 64 := Nat.pow_lt_pow_right (by decide) (Nat.mod_lt _ (by decide))
  have e2 : IntKind.u64.wrap ((2 : Int) ^ (x % 64)) = ((2 ^ (x % 64) : Nat) : Int) := by
    rw [IntKind.wrap_u64]
    have : ((2 : Int) ^ (x % 64)) = ((2 ^ (x % 64) : Nat) : Int) := by simp
    rw [this]
    generalize 2 ^ (x % 64) = p at hp
    omega
  rw [e, e2]
  exact bits_or_u64_nat _ _ (bitsOf_lt pre _) hp

set_option maxRecDepth 100000 in
set_option maxHeartbeats 1000000 in
theorem met_with (pre : List Nat) (x : Nat) (hx : x ≤ 4096) (w : World) :
    Calls Tryz.prog 126 #[.agg (metV pre), .int .i64 x] w fun e w' => e = .returned (.agg (metV (pre ++ [x]))) ∧ Only [] w w' := by
  have hz := met_zero
  go_enter Tryz.func126, Tryz.ntmps126
  have hx0 : (0 : Int) ≤ (x : Int) / 64 := by omega
  have hx1 : (x : Int) / 64 < 65 := by omega
  have hxn : x / 64 < 65 := by omega
  have hm0 : (0 : Int) ≤ (x : Int) % 64 := by omega
  have hm1 : (x : Int) % 64 < 64 := by omega
  go_wp2_with fail
  refine wp_name (fun w1 => Blk w1 w.heap.size (metV pre) 180 ∧ Blk w1 (w.heap.size + 1) (metV []) 180 ∧ Only [] w w1) ⟨(Blk.new w _ _).alloc _, ?_, (Only.alloc _ _ _).trans (Only.alloc _ _ _)⟩ ?_
  · have := Blk.new (w.alloc (.cells (metV pre) 180)) (metV []) 180
    simpa using this
  rintro w1 ⟨hB, hD, hO⟩
  have hc : w1.cell? ⟨w.heap.size, x / 64, none⟩ = some (.int .u64 (bitsOf pre (x / 64))) := hB.cell _ (metV_get pre hxn)
  have hf := hB.free (x / 64)
  have hfin : Hid (∀ w2 : World, (w1.drewN 1).setCell ⟨w.heap.size, x / 64, none⟩ (.int .u64 (bits .or .u64 (bitsOf pre (x / 64)) (IntKind.u64.wrap (2 ^ ((x : Int) % 64).toNat)))) = w2 → Blk w2 w.heap.size (metV (pre ++ [x])) 180 ∧ Blk w2 (w.heap.size + 1) (metV []) 180 ∧ Only [] w w2) := by
    intro w2 hw
    subst hw
    rw [bits_with]
    refine ⟨?_, ?_, ?_⟩
    · have := Blk.set_same (w := w1.drewN 1) hB (x / 64) (.int .u64 ((bitsOf pre (x / 64) ||| 2 ^ (x % 64) : Nat) : Int))
      rw [metV_set] at this
      exact this
    · exact Blk.set_other (w := w1.drewN 1) hD (by simp) _
    · exact hO.past ((Only.drewN [w.heap.size] w1 1).trans (Only.setCell _ (by simp) _)) (by simp)
  go_cut [12] (fun s12 wc => Blk wc w.heap.size (metV (pre ++ [x])) 180 ∧ Blk wc (w.heap.size + 1) (metV []) 180 ∧ Only [] w wc)
  case first =>
    have hwr : IntKind.i64.wrap ((x : Int) / 64) = (x : Int) / 64 := IntWalk.i64_in _ ⟨by omega, by omega⟩
    have htn : ((x : Int) / 64).toNat = x / 64 := by omega
    have htm : (x : Int).tmod 64 = (x : Int) % 64 := Int.tmod_eq_emod_of_nonneg (by omega)
    have hc2 : ({ w1 with drawn := w1.drawn + 1 } : World).cell? ⟨w.heap.size, x / 64, none⟩ = some (.int .u64 (bitsOf pre (x / 64))) := hc
    have hc3 : ({ w1 with drawn := w1.drawn + 1 } : World).frozen? ⟨w.heap.size, x / 64, none⟩ = false := hf
    go_still_tail 9, (by kernel_rfl)
    generalize hwd : ({ w1 with drawn := w1.drawn + 1 } : World) = wd1 at *
    have HWD := Lib.hid hwd
    clear hwd hwr htn htm hx0 hx1 hm0 hm1 hc hf
    go_wp2_with fail
    go_meet
    case rel => exact hfin.out _ (by rw [← HWD.out]; rfl)
  case rest =>
    obtain ⟨hB2, hD2, hO2⟩ := hcut
    clear hfin hc hf hB hD hO
    go_wp2_with (first | (refine wpList_load_row rfl 180 _ rfl _ rfl 180 _ (0, 0) _ hB2 Tryz.underlying180 rfl (by rw [metV_size]; kernel_rfl) ?_) | (refine wpList_store_row rfl 180 _ _ rfl _ _ rfl rfl 180 _ hD2 (by rw [metV_size]; kernel_rfl) (by rw [metV_size, metV_size]) (metV_one _) ?_))
    refine bodyPost_ret (v := .agg (metV (pre ++ [x]))) (results_cell_row rfl _ _ (w.heap.size + 1) 180 _ (0, 0) _ rfl (Blk.setRow hD2) Tryz.underlying180 rfl (by rw [metV_size]; kernel_rfl)) rfl ⟨rfl, ?_⟩
    exact hO2.past (Only.setRow (S := [w.heap.size + 1]) _ (by simp) _) (by simp)

/-- One step of the comparison of two rows of words. -/
theorem run_part_word (P : Program) (e : TypeId) (he : P.underlying e = some (.int .u64)) (xs : Array Value) (k : Nat) (v : Value) (hx : xs[k]? = some v) (w : World) :
    (part e xs k).run P w = .ok v w := by
  simp [part, isAgg, run_underlying he, hx]

theorem run_equalIn_word (P : Program) (e : TypeId) (d : Nat) (he : P.underlying e = some (.int .u64)) (a b : Int) (w : World) :
    (Op.equalIn (d + 1) e (.int .u64 a) (.int .u64 b)).run P w = .ok (a == b) w := by
  simp [Op.equalIn, run_underlying he]

theorem run_words_loop (P : Program) (e : TypeId) (d : Nat) (he : P.underlying e = some (.int .u64)) (f g : Nat → Int) (xs ys : Array Value) (hx : ∀ k, k < 65 → xs[k]? = some (.int .u64 (f k))) (hy : ∀ k, k < 65 → ys[k]? = some (.int .u64 (g k))) (j : Nat) (hj : j < 65) (hd : f j ≠ g j) (hs : ∀ k, k < j → f k = g k) (w : World) :
    ∀ m a, a + m = 65 → a ≤ j →
    (forIn (m := Sem) (List.range' a m) (none, ()) fun i (_ : Option Bool × Unit) => do
      let u ← part e xs i
      let v ← part e ys i
      let r ← Op.equalIn (d + 1) e u v
      if r = false then pure (ForInStep.done (some false, ())) else pure (ForInStep.yield (none, ()))).run P w = .ok (some false, ()) w := by
  intro m
  induction m with
  | zero => intro a h1 h2; omega
  | succ m ih =>
    intro a h1 h2
    rw [List.range'_succ, List.forIn_cons]
    have ha : a < 65 := by omega
    simp only [Sem.run_bind, run_part_word P e he xs a _ (hx a ha), run_part_word P e he ys a _ (hy a ha), Result.andThen_ok, run_equalIn_word P e d he]
    by_cases hja : a = j
    · subst hja
      have hb : (f a == g a) = false := by simpa using hd
      simp [hb]
    · have hb : (f a == g a) = true := by simpa using hs a (by omega)
      simp only [hb, Bool.true_eq_false, if_false, Sem.run_pure, Result.andThen_ok]
      exact ih (a + 1) (by omega) (by omega)

theorem run_equalIn_words (P : Program) (d : Nat) (t e : TypeId) (ht : P.underlying t = some (.array 65 e)) (he : P.underlying e = some (.int .u64)) (hs1 : (P.info? e).map (·.size) = some 1) (f g : Nat → Int) (xs ys : Array Value) (hx : ∀ k, k < 65 → xs[k]? = some (.int .u64 (f k))) (hy : ∀ k, k < 65 → ys[k]? = some (.int .u64 (g k))) (j : Nat) (hj : j < 65) (hd : f j ≠ g j) (hs : ∀ k, k < j → f k = g k) (w : World) :
    (Op.equalIn (d + 2) t (.agg xs) (.agg ys)).run P w = .ok false w := by
  obtain ⟨i, hi, hz⟩ := Option.map_eq_some_iff.1 hs1
  have hl := run_words_loop P e d he f g xs ys hx hy j hj hd hs w 65 0 (by omega) (by omega)
  rw [Op.equalIn]
  simp only [Sem.run_bind, run_underlying ht, Result.andThen_ok, sizeOf, typeInfo]
  simp [hi, hz]
  simp only [hl, Result.andThen_ok]
  rfl

theorem run_neql_words (P : Program) (t e : TypeId) (ht : P.underlying t = some (.array 65 e)) (he : P.underlying e = some (.int .u64)) (hs1 : (P.info? e).map (·.size) = some 1) (f g : Nat → Int) (xs ys : Array Value) (hx : ∀ k, k < 65 → xs[k]? = some (.int .u64 (f k))) (hy : ∀ k, k < 65 → ys[k]? = some (.int .u64 (g k))) (j : Nat) (hj : j < 65) (hd : f j ≠ g j) (hs : ∀ k, k < j → f k = g k) (w : World) :
    (binOp .eql t (.agg xs) (.agg ys)).run P w = .ok (.bool false) w := by
  simp only [binOp]
  simp [Op.equal, Op.maxDepth, run_equalIn_words P 9998 t e ht he hs1 f g xs ys hx hy j hj hd hs w]

/-- Two sets of places, the one with one place more, are told apart. -/
theorem met_differs (pre : List Nat) (x : Nat) (h : x ∉ pre) (hx : x ≤ 4096) (w : World) : (binOp .eql 180 (.agg (metV (pre ++ [x]))) (.agg (metV pre))).run Tryz.prog w = .ok (.bool false) w := by
  obtain ⟨j, hj, hs, hd⟩ := metV_ne h (by omega)
  exact run_neql_words Tryz.prog 180 178 Tryz.underlying180 Tryz.underlying178 (by kernel_rfl) (fun k => bitsOf (pre ++ [x]) k) (fun k => bitsOf pre k) _ _ (fun k hk => metV_get _ hk) (fun k hk => metV_get _ hk) j hj (by intro e; exact hd (by omega)) (fun k hk => by have := hs k hk; omega) w

end Go.Proofs.YtpknnamficegbaaGreatDoor

