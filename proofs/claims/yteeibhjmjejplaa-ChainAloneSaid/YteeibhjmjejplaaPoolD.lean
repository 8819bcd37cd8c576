/- A pool, alone: Give, Take, New as calls. Condition: the pool stands in memory as PoolAt says. -/
import Derived.Test.YteeibhjmjejplaaPoolC
namespace Go.Proofs.Yteeibhjmjejplaa
open Go.RowKit

def poison : Int := -7777777
/-- A slot that was given back. -/
def poisoned (g : Int) : Sl := ⟨g, -7777777, -7777777, -7777777, -7777777, -7777777, -7777777⟩

theorem PoolAt.gen {w w1 : World} {A : PA} {n i : Nat} {S : Nat → Sl} {t : Int} {fs : List Nat} {fa : Int} (H : PoolAt w A n S t fs fa) (x : Int) (hw : w.setCell ⟨A.sb, i * 7, none⟩ (.int .i64 x) = w1) : PoolAt w1 A n (upS S i { S i with gen := x }) t fs fa ∧ Only A.all w w1 := by
  have hr := H.row.put i 0 x { S i with gen := x } (by omega) rfl (by intro k hk hn; match k, hk, hn with | 1, _, _ => rfl | 2, _, _ => rfl | 3, _, _ => rfl | 4, _, _ => rfl | 5, _, _ => rfl | 6, _, _ => rfl) hw
  have o : Only [A.sb] w w1 := hw ▸ Only.setCell _ (by simp) _
  exact ⟨H.slots hr o, o.mono (by simp [PA.all])⟩

theorem PoolAt.piled {w w1 : World} {A : PA} {n : Nat} {S : Nat → Sl} {t t' : Int} {fs fs' : List Nat} {nx : List Int} {fa : Int} (H : PoolAt w A n S t fs fa) (hp : PileAt w1 A.pb A.nb n t' fs' nx) (o : Only [A.pb, A.nb] w w1) : PoolAt w1 A n S t' fs' fa ∧ Only A.all w w1 := by
  have ha := H.apart
  exact ⟨⟨H.head.only o (by simp [ha.2.1, ha.2.2.1]), H.row.only o (by simp [ha.2.2.2.1, ha.2.2.2.2]), ⟨nx, hp⟩, ha⟩, o.mono (by simp [PA.all])⟩

set_option maxHeartbeats 400000 in
theorem pool_give_bad (A : PA) (n : Nat) (S : Nat → Sl) (t : Int) (fs : List Nat) (fa h : Int) (w : World) (H : PoolAt w A n S t fs fa) (hb : ¬ isHandle n h) :
    Calls Try.prog 54 #[.pointer (some ⟨A.p, 0, none⟩), .pointer none, .int .i64 h] w fun e w' => e = .returned (.int .i64 103) ∧ w = w' := by
  have hA := Lib.hid (pool_at_bad A n S t fs fa h w H hb)
  clear H hb
  go_enter Try.func54, Try.ntmps54
  go_wp2_with fail
  refine (step_nil _).mono ?_
  rintro e w' ⟨rfl, rfl⟩
  go_wp2_with fail
  refine hA.out.mono ?_
  rintro e w' ⟨rfl, rfl⟩
  go_wp2_with fail
  go_ret
  exact ⟨rfl, rfl⟩

set_option maxHeartbeats 400000 in
theorem pool_give_gone (A : PA) (n i : Nat) (S : Nat → Sl) (t : Int) (fs : List Nat) (fa h g : Int) (w : World) (H : PoolAt w A n S t fs fa) (h1 : 1 ≤ i) (h2 : i ≤ n) (hi : idxOf h = i) (hg : tagOf h = g) (ho : g % 2 = 1) (hS : ¬ (S i).gen = g) :
    Calls Try.prog 54 #[.pointer (some ⟨A.p, 0, none⟩), .pointer none, .int .i64 h] w fun e w' => e = .returned (.int .i64 104) ∧ w = w' := by
  have hA := Lib.hid (pool_at A n i S t fs fa h g w H h1 h2 hi hg ho)
  have hc := H.row.slot i 0 (by omega) (slot_room h2)
  rw [show (S i).get 0 = (S i).gen from rfl] at hc
  have hf := H.row.free (i * 7 + 0)
  have htr := tagOf_range h
  rw [hg] at htr
  obtain ⟨hg0, hg1⟩ := htr
  have HS := Lib.hid hS
  clear H hi hg ho hS
  go_enter Try.func54, Try.ntmps54
  go_wp2_with fail
  refine (step_nil _).mono ?_
  rintro e w' ⟨rfl, rfl⟩
  go_wp2_with fail
  refine hA.out.mono ?_
  rintro e w' ⟨rfl, rfl⟩
  go_wp2_with fail
  refine (cas_miss _ _ _ _ _ hc hf HS.out).mono ?_
  rintro e w' ⟨rfl, rfl⟩
  go_wp2_with fail
  go_ret
  exact ⟨rfl, rfl⟩

set_option maxHeartbeats 1600000 in
theorem pool_give (A : PA) (n i : Nat) (S : Nat → Sl) (t : Int) (fs : List Nat) (fa h g : Int) (w : World) (H : PoolAt w A n S t fs fa) (h1 : 1 ≤ i) (h2 : i ≤ n) (hi : idxOf h = i) (hg : tagOf h = g) (ho : g % 2 = 1) (hS : (S i).gen = g) (hfs : i ∉ fs) (ht : t + 1 ≤ 1000000000000) :
    Calls Try.prog 54 #[.pointer (some ⟨A.p, 0, none⟩), .pointer none, .int .i64 h] w fun e w' => e = .returned (.int .i64 0) ∧ PoolAt w' A n (upS S i (poisoned (g + 1))) (t + 1) (i :: fs) fa ∧ Only A.all w w' := by
  have hA := Lib.hid (pool_at A n i S t fs fa h g w H h1 h2 hi hg ho)
  have hc := H.row.slot i 0 (by omega) (slot_room h2)
  rw [show (S i).get 0 = g from hS] at hc
  have hf := H.row.free (i * 7 + 0)
  have htr := tagOf_range h
  rw [hg] at htr
  obtain ⟨hg0, hg1⟩ := htr
  have hW := Lib.hid (fun w1 => PoolAt.gen (w1 := w1) (i := i) H (g + 1))
  have hI := Lib.hid (fun w => word_idx h w)
  rw [hi] at hI
  clear H hi hg ho hS
  go_enter Try.func54, Try.ntmps54
  go_wp2_with fail
  refine (step_nil _).mono ?_
  rintro e w' ⟨rfl, rfl⟩
  go_wp2_with fail
  refine hA.out.mono ?_
  rintro e w' ⟨rfl, rfl⟩
  go_wp2_with fail
  refine (cas_hit _ _ _ _ hc hf).mono ?_
  rintro e w1 ⟨rfl, hw⟩
  obtain ⟨hP, hO⟩ := hW.out w1 hw
  clear hw hc hf hA hW
  go_wp2_with fail
  refine calls_name (fun w2 => PoolAt w2 A n (upS S i { S i with gen := g + 1 }) t fs fa ∧ Blk w2 w1.heap.size #[.int .i64 (-7777777), .int .i64 (-7777777), .int .i64 (-7777777), .int .i64 (-7777777)] 39 ∧ Only A.all w w2 ∧ w2.heap.size = w1.heap.size + 1) ⟨hP.only (Only.alloc [] _ _) (by simp), Blk.new _ _ _, hO.trans (Only.alloc _ _ _), by simp⟩ ?_
  rintro w2 ⟨hP2, hB2, hO2, hz2⟩
  have hsz := hO.size
  clear hP hO
  have HZ2 := Lib.hid hz2
  clear hz2
  refine (slot_holds _ _ i _ _ hP2.row (slot_room h2)).mono ?_
  rw [upS_same]
  rintro e w3 ⟨rfl, hX⟩
  have hP3 := hP2.only hX (by simp)
  have hB3 := hB2.only hX (by simp)
  have hO3 := hO2.trans (hX.mono (by simp))
  have hz3 := hX.size
  clear hP2 hB2 hO2 hX
  generalize hb9 : w1.heap.size = b9 at *
  have HB9 := Lib.hid hb9
  clear hb9
  have hb3 := hB3.lt
  generalize hxa : (S i).a = xa at *
  generalize hxb : (S i).b = xb at *
  generalize hxc : (S i).c = xc at *
  generalize hxd : (S i).d = xd at *
  have HXA := Lib.hid hxa
  have HXB := Lib.hid hxb
  have HXC := Lib.hid hxc
  have HXD := Lib.hid hxd
  clear hxa hxb hxc hxd
  go_upto_region 9 with fail
  refine wp_name (fun w4 => PoolAt w4 A n (upS S i { S i with gen := g + 1 }) t fs fa ∧ Blk w4 b9 #[.int .i64 (-7777777), .int .i64 (-7777777), .int .i64 (-7777777), .int .i64 (-7777777)] 39 ∧ Blk w4 w3.heap.size #[.int .i64 xa, .int .i64 xb, .int .i64 xc, .int .i64 xd] 39 ∧ Only A.all w w4) ⟨?_, hB3.alloc _, Blk.new _ _ _, hO3.trans (Only.alloc _ _ _)⟩ ?_
  · exact hP3.only (Only.alloc [] _ _) (by simp)
  generalize w3.heap.size = b10
  clear hP3 hB3 hO3 hb3 hz3 w3
  rintro w4 ⟨hP4, hB4, hC4, hO4⟩
  have p0 := hB4.cell 0 rfl
  have p1 := hB4.cell 1 rfl
  have p2 := hB4.cell 2 rfl
  have p3 := hB4.cell 3 rfl
  have q0 := hC4.cell 0 rfl
  have q1 := hC4.cell 1 rfl
  have q2 := hC4.cell 2 rfl
  have q3 := hC4.cell 3 rfl
  go_cut [36] (fun s36 wc => wc = w4 ∧ ∃ bb : Bool, s36 = .bool bb ∧ Hid (bb = false → xa = -7777777 ∧ xb = -7777777 ∧ xc = -7777777 ∧ xd = -7777777))
  case first =>
    go_wp2_with fail
    all_goals
      go_meet
      first | exact ⟨trivial, true, rfl, fun h => by cases h⟩ | exact ⟨trivial, false, rfl, fun _ => ⟨by assumption, by assumption, by assumption, by assumption⟩⟩ | exact ⟨rfl, true, rfl, fun h => by cases h⟩ | exact ⟨rfl, false, rfl, fun _ => ⟨by assumption, by assumption, by assumption, by assumption⟩⟩
  case rest =>
    obtain ⟨rfl, bb, rfl, HBB⟩ := hcut
    clear q0 q1 q2 q3 hC4
    go_upto_if 36 with fail
    go_cut [36] (fun s36 wc => ∃ m l : Int, PoolAt wc A n (upS S i ⟨g + 1, m, l, -7777777, -7777777, -7777777, -7777777⟩) t fs fa ∧ Only A.all w wc)
    case first =>
      cases bb
      · go_wp2_with fail
        go_meet
        case rel =>
          obtain ⟨ea, eb, ec, ed⟩ := HBB.out (by first | trivial | rfl)
          refine ⟨(S i).mark, (S i).link, ?_, hO4⟩
          have e : ({ S i with gen := g + 1 } : Sl) = ⟨g + 1, (S i).mark, (S i).link, -7777777, -7777777, -7777777, -7777777⟩ := by
            show (⟨g + 1, (S i).mark, (S i).link, (S i).a, (S i).b, (S i).c, (S i).d⟩ : Sl) = _
            rw [HXA.out.trans ea, HXB.out.trans eb, HXC.out.trans ec, HXD.out.trans ed]
          rw [e] at hP4
          exact hP4
      · go_wp2_with fail
        refine (slot_lays _ _ i _ _ _ _ _ _ _ _ hP4.row (slot_room h2)).mono ?_
        rw [upS_same, upS_upS]
        rintro e w5 ⟨rfl, hR5, hX5⟩
        have hP5 := hP4.slots hR5 hX5
        have hO5 := hO4.trans (hX5.mono (by simp [PA.all]))
        clear hP4 hO4 hR5 hX5 p0 p1 p2 p3
        go_wp2_with fail
        go_meet
        case rel => exact ⟨_, _, hP5, hO5⟩
    case rest =>
      obtain ⟨m, l, hP5, hO5⟩ := hcut
      clear hP4 hO4 p0 p1 p2 p3
      have hc := hP5.row.slot i 1 (by omega) (slot_room h2)
      rw [upS_same] at hc
      go_wp2_with fail
      refine (store_any _ _ _ _ hc (hP5.row.free _)).mono ?_
      rintro e w6 ⟨rfl, hw⟩
      obtain ⟨hP6, hX6⟩ := hP5.marked (i := i) (-7777777) hw
      rw [upS_same, upS_upS] at hP6
      have hO6 := hO5.trans hX6
      clear hP5 hO5 hX6 hw hc
      have hc := hP6.row.slot i 2 (by omega) (slot_room h2)
      rw [upS_same] at hc
      go_wp2_with fail
      refine (store_any _ _ _ _ hc (hP6.row.free _)).mono ?_
      rintro e w7 ⟨rfl, hw⟩
      obtain ⟨hP7, hX7⟩ := hP6.linkd (i := i) (-7777777) hw
      rw [upS_same, upS_upS] at hP7
      have hO7 := hO6.trans hX7
      clear hP6 hO6 hX7 hw hc
      have hp1 : w7.cell? ⟨A.p, 1, none⟩ = some (.pointer (some ⟨A.pb, 0, none⟩)) := hP7.head.cell 1 rfl
      obtain ⟨nx, hPi⟩ := hP7.pile
      have HPU := Lib.hid (fun w => pile_push A.pb A.nb n i t fs nx w)
      have HPI := Lib.hid (hPi.only (Only.drew [] w7) (by simp) (by simp))
      have HP7 := Lib.hid hP7
      clear hPi hP7
      go_upto_region 13 with fail
      go_cut [6] (fun s6 wc => s6 = .int .i64 0 ∧ PoolAt wc A n (upS S i (poisoned (g + 1))) (t + 1) (i :: fs) fa ∧ Only A.all w wc)
      case first =>
        go_region_with (first | (go_at_call 30; refine (hI.out _).mono ?_; rintro e w' ⟨rfl, rfl⟩) | (go_at_call 67; refine (HPU.out w7.drew HPI.out ht hfs ⟨h1, h2⟩).mono ?_; rintro e w8 ⟨rfl, hP8, hX8⟩))
        all_goals (go_wp2_with fail; go_meet)
        all_goals exact ⟨rfl, (HP7.out.piled hP8 ((Only.drew _ w7).trans hX8)).1, hO7.trans (HP7.out.piled hP8 ((Only.drew _ w7).trans hX8)).2⟩
      case rest =>
        obtain ⟨rfl, hP8, hO8⟩ := hcut
        go_wp2_with fail
        go_ret
        exact ⟨rfl, hP8, hO8⟩

set_option maxHeartbeats 1000000 in
theorem pool_take1 (A : PA) (n i : Nat) (S : Nat → Sl) (t : Int) (fs : List Nat) (fa a b c d l : Int) (pB xB lB hB : Nat) (w : World) (H : PoolAt w A n S t fs fa) (h1 : 1 ≤ i) (h2 : i ≤ n) (hg : 0 ≤ (S i).gen ∧ (S i).gen ≤ 1000000000000)
    (hp : Blk w pB #[.pointer (some ⟨A.p, 0, none⟩)] 24) (hx : Blk w xB #[.int .i64 a, .int .i64 b, .int .i64 c, .int .i64 d] 39) (hl : Blk w lB #[.int .i64 l] 3) (hh : Blk w hB #[.int .i64 0] 3)
    (hnA : pB ∉ A.all ∧ xB ∉ A.all ∧ lB ∉ A.all ∧ hB ∉ A.all) (hap : pB ≠ hB ∧ xB ≠ hB ∧ lB ≠ hB) :
    Calls Try.prog 50 #[.int .i64 i, .pointer (some ⟨pB, 0, none⟩), .pointer (some ⟨xB, 0, none⟩), .pointer (some ⟨lB, 0, none⟩), .pointer (some ⟨hB, 0, none⟩)] w fun e w' => e = .returned (.tuple #[]) ∧ PoolAt w' A n (upS S i ⟨(S i).gen + 1, 0, l, a, b, c, d⟩) t fs fa ∧ Blk w' hB #[.int .i64 (wd i ((S i).gen + 1))] 3 ∧ Only (hB :: A.all) w w' := by
  have hm := H.many
  have hil : (i : Int) < (n : Int) + 1 := by omega
  have hp0 := hp.cell 0 rfl
  have hs0 : w.cell? ⟨A.p, 0, none⟩ = some (.slice (some ⟨A.sb, 0, none⟩) (n + 1) (n + 1)) := H.head.cell 0 rfl
  have hx0 := hx.cell 0 rfl
  have hx1 := hx.cell 1 rfl
  have hx2 := hx.cell 2 rfl
  have hx3 := hx.cell 3 rfl
  have hl0 := hl.cell 0 rfl
  obtain ⟨hg0, hg1⟩ := hg
  have hs : (Op.intArith .add .i64 (S i).gen 1).run Try.prog w = .ok (.int .i64 ((S i).gen + 1)) w := by
    have : IntKind.i64.wrap ((S i).gen + 1) = (S i).gen + 1 := wraps_i64 _ (by omega) (by omega)
    simp [Op.intArith, this]
  have HS : Hid (∀ w, (Op.intArith .add .i64 (S i).gen 1).run Try.prog w = .ok (.int .i64 ((S i).gen + 1)) w) := by
    intro w
    have : IntKind.i64.wrap ((S i).gen + 1) = (S i).gen + 1 := wraps_i64 _ (by omega) (by omega)
    simp [Op.intArith, this]
  have HH := Lib.hid hh
  have HA := Lib.hid hnA
  have HC := Lib.hid hap
  have HP := Lib.hid H
  clear hs hh hnA hap H hp hx hl
  go_enter Try.func50, Try.ntmps50
  go_wp2_with fail
  refine (slot_lays _ _ i S a b c d 0 l _ HP.out.row (slot_room h2)).mono ?_
  rintro e w1 ⟨rfl, hR, hX⟩
  have hP1 := HP.out.slots hR hX
  have hO1 : Only (hB :: A.all) w w1 := hX.mono (by simp [PA.all])
  have hh1 := HH.out.only hX (by have := HA.out.2.2.2; simp [PA.all] at this; simp [this])
  have hs1 : w1.cell? ⟨A.sb, i * 7, none⟩ = some (.int .i64 (S i).gen) := by
    have := hP1.row.slot i 0 (by omega) (slot_room h2)
    rw [upS_same] at this
    exact this
  have hW := Lib.hid (fun w2 => PoolAt.gen (w1 := w2) (i := i) hP1 ((S i).gen + 1))
  have hf1 := hP1.row.free (i * 7)
  clear hR hX HP hp0 hs0 hx0 hx1 hx2 hx3 hl0
  go_wp2_with fail
  refine (add_any _ _ _ _ _ hs1 hf1 (HS.out _)).mono ?_
  rintro e w2 ⟨rfl, hw⟩
  obtain ⟨hP2, hX2⟩ := hW.out w2 hw
  rw [upS_same, upS_upS] at hP2
  have hO2 := hO1.trans (hX2.mono (by intro k hk; simp [hk]))
  have hh2 := hh1.only hX2 HA.out.2.2.2
  clear hW hw hX2 hP1 hO1 hh1 hs1 hf1
  go_wp2_with fail
  refine (word_pack _ _ _ (by omega) (by omega) (by omega) (by omega)).mono ?_
  rintro e w' ⟨rfl, rfl⟩
  have hc2 := hh2.cell 0 rfl
  have hf2 := hh2.free 0
  go_wp2_with fail
  go_end0
  have hX3 : Only [hB] w2 (w2.setCell ⟨hB, 0, none⟩ (.int .i64 (wd i ((S i).gen + 1)))) := Only.setCell _ (by simp) _
  refine ⟨rfl, hP2.only hX3 (by intro k hk; simp; rintro rfl; exact HA.out.2.2.2 hk), ?_, hO2.trans (hX3.mono (by simp))⟩
  have := hh2.set_same 0 (.int .i64 (wd i ((S i).gen + 1)))
  simpa using this

end Go.Proofs.Yteeibhjmjejplaa
