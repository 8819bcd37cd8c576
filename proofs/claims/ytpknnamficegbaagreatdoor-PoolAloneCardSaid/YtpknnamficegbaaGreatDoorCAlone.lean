/- PoolAlone as a call: it returns true. Condition: the calls stand in memory as OpsAt says. -/
import Derived.Laws.Tables
import Derived.Test.YtpknnamficegbaaGreatDoorCMainA
set_option linter.unusedVariables false
set_option linter.unusedSimpArgs false
set_option linter.unusedSectionVars false
set_option linter.unnecessarySimpa false
namespace Go.Proofs.YtpknnamficegbaaGreatDoor
open Go.RowKit

/-- A call alone. -/
structure Op9 where
  kind : Int
  h : Int
  a : Int
  v : Int
  xa : Int
  xb : Int
  xc : Int
  xd : Int
  sec : Bool

def OpsAt (w : World) (b o N : Nat) (O : Nat → Op9) : Prop :=
  ∀ i, i < N → w.cell? ⟨b, o + i * 9, none⟩ = some (.int .i64 (O i).kind) ∧ w.cell? ⟨b, o + i * 9 + 1, none⟩ = some (.int .i64 (O i).h) ∧ w.cell? ⟨b, o + i * 9 + 2, none⟩ = some (.int .i64 (O i).a) ∧ w.cell? ⟨b, o + i * 9 + 3, none⟩ = some (.int .i64 (O i).v) ∧
    w.cell? ⟨b, o + i * 9 + 4, none⟩ = some (.int .i64 (O i).xa) ∧ w.cell? ⟨b, o + i * 9 + 5, none⟩ = some (.int .i64 (O i).xb) ∧ w.cell? ⟨b, o + i * 9 + 6, none⟩ = some (.int .i64 (O i).xc) ∧ w.cell? ⟨b, o + i * 9 + 7, none⟩ = some (.int .i64 (O i).xd) ∧ w.cell? ⟨b, o + i * 9 + 8, none⟩ = some (.bool (O i).sec) ∧
    (-9223372036854775808 ≤ (O i).h ∧ (O i).h ≤ 9223372036854775807) ∧ (-9223372036854775808 ≤ (O i).v ∧ (O i).v ≤ 9223372036854775807)

theorem OpsAt.only {w w' : World} {b o N : Nat} {O : Nat → Op9} (h : OpsAt w b o N O) (x : Only [] w w') : OpsAt w' b o N O := fun i hi => by
  obtain ⟨h0, h1, h2, h3, h4, h5, h6, h7, h8, h9⟩ := h i hi
  exact ⟨keep_cell x h0, keep_cell x h1, keep_cell x h2, keep_cell x h3, keep_cell x h4, keep_cell x h5, keep_cell x h6, keep_cell x h7, keep_cell x h8, h9⟩

theorem book_zero (w : World) (cs : Array Value) (hcs : cs = ((List.range 103).map (hdrF 0 0 hv0 hv0)).toArray) : RowV (w.alloc (.cells cs 41)) w.heap.size 103 (hdrF 0 0 hv0 hv0) 41 :=
  RowV.of_blk (Blk.new w cs 41) (by subst hcs; simp) (fun j hj => by subst hcs; simp [hj])

/-- The cells of a new book. -/
def bookCells : Array Value := ((List.range 103).map (hdrF 0 0 hv0 hv0)).toArray

theorem wp_build_at {P : Program} {o : Oper} {a : Act} {w : World} {K : Act → World → Prop} {Q : Exit → Act → World → Prop} (t : TypeId) (parts : Array (Nat × Operand)) (ho : o.op = .build t parts) (cells : Array Value)
    (hc : P.built t (parts.map fun (i, x) => (i, a.eval x)).toList = some cells) (h : K (a.put o.dst (.agg cells)) w) : o.wp P a w K Q := by
  unfold Oper.wp execOp
  simp only [ho, Sem.run_bind, run_build w t _ cells hc, Result.andThen_ok]
  exact h

def IsOps (w : World) (a : Option Addr) (len : Nat) : Prop := len = 0 ∨ ∃ (b o : Nat) (O : Nat → Op9), a = some ⟨b, o, none⟩ ∧ OpsAt w b o len O

set_option maxRecDepth 100000 in
set_option maxHeartbeats 2000000 in
/-- Many calls, or a pool that there can't be: nothing is asked. -/
theorem alone_none (n1 n2 : Int) (ad : Option Addr) (len cap : Nat) (w : World) (hn : ¬ (1 ≤ n1 ∧ n1 ≤ 4096 ∧ 1 ≤ n2 ∧ n2 ≤ 4096 ∧ len ≤ 300)) :
    Calls Tryz.prog 3 #[.int .i64 n1, .int .i64 n2, .slice ad len cap] w fun e w' => e = .returned (.bool true) ∧ Only [] w w' := by
  have HBG : Hid (∀ (n : Int) (W : World), Calls Tryz.prog 5 #[.int .i64 n] W fun e w' => ∃ p, e = .returned (.tuple #[.pointer p, .bool true]) ∧ Only [] W w' ∧ (p = none ↔ (n < 1 ∨ 4096 < n))) := Lib.hid (fun n W => by
    by_cases hb : n < 1 ∨ 4096 < n
    · exact (begun_bad hb W).mono fun e w' h => ⟨none, h.1, h.2, by simp [hb]⟩
    · obtain ⟨m, rfl⟩ : ∃ m : Nat, n = (m : Int) := ⟨n.toNat, by omega⟩
      exact (begun_ok (n := m) (by omega) (by omega) W).mono fun e w' h => by
        obtain ⟨B, h1, _, h2, _⟩ := h
        exact ⟨_, h1, h2, by simp [hb]⟩)
  by_cases hl : 300 < len
  · clear hn HBG
    go_enter Tryz.func3, Tryz.ntmps3
    go_wp2_with fail
    refine (pool_known w).mono ?_
    rintro e w1 ⟨rfl, o1⟩
    have HO := Lib.hid o1
    clear o1
    go_wp2_with fail
    go_ret
    exact ⟨rfl, HO.out⟩
  · have hb : (n1 < 1 ∨ 4096 < n1) ∨ (n2 < 1 ∨ 4096 < n2) := by omega
    have HBB := Lib.hid hb
    have hl3 : (len : Int) ≤ 300 := by omega
    clear hn hb
    go_enter Tryz.func3, Tryz.ntmps3
    go_wp2_with fail
    refine (pool_known w).mono ?_
    rintro e w1 ⟨rfl, o1⟩
    have HO1 := Lib.hid o1
    clear o1
    go_wp2_with fail
    refine (HBG.out n1 w1).mono ?_
    rintro e w2 ⟨p1, rfl, o2, hp1⟩
    have HO2 := Lib.hid (And.intro (HO1.out.trans o2) hp1)
    clear o2 hp1
    go_wp2_with fail
    refine (HBG.out n2 w2).mono ?_
    rintro e w3 ⟨p2, rfl, o3, hp2⟩
    have HO3 := Lib.hid (HO2.out.1.trans o3)
    have hpp : p1 = none ∨ p2 = none := by
      rcases HBB.out with h | h
      · exact Or.inl (HO2.out.2.2 h)
      · exact Or.inr (hp2.2 h)
    clear o3 hp2
    rcases p1 with _ | p1
    · clear hpp
      go_wp2_with fail
      go_ret
      exact ⟨rfl, HO3.out⟩
    · have hp2 : p2 = none := by simpa using hpp
      subst hp2
      clear hpp
      go_wp2_with fail
      go_ret
      exact ⟨rfl, HO3.out⟩

set_option maxRecDepth 100000 in
set_option maxHeartbeats 4000000 in
theorem alone_core (n1 n2 : Nat) (h1 : 1 ≤ n1 ∧ n1 ≤ 4096) (h2 : 1 ≤ n2 ∧ n2 ≤ 4096) (lb lo len cap : Nat) (O : Nat → Op9) (w : World) (hO : OpsAt w lb lo len O) (hl : len ≤ 300) (ad : Option Addr) (had : 0 < len → ad = some ⟨lb, lo, none⟩) :
    Calls Tryz.prog 3 #[.int .i64 n1, .int .i64 n2, .slice ad len cap] w fun e w' => e = .returned (.bool true) ∧ Only [] w w' := by
  have HOP := Lib.hid hO
  have HAD := Lib.hid had
  have HN := Lib.hid (And.intro h1 h2)
  have hl3 : (len : Int) ≤ 300 := by omega
  clear hO had h1 h2
  go_enter Tryz.func3, Tryz.ntmps3
  go_wp2_with fail
  refine (pool_known w).mono ?_
  rintro e w1 ⟨rfl, o1⟩
  have HO1 := Lib.hid o1
  clear o1
  go_wp2_with fail
  refine (begun_ok HN.out.1.1 HN.out.1.2 w1).mono ?_
  rintro e w2 ⟨B1, rfl, hP1, o2, hl1⟩
  obtain ⟨x1, A1, R1, v1⟩ := B1
  have H2 := Lib.hid (And.intro hP1 (And.intro o2 hl1))
  clear hP1 o2 hl1
  go_wp2_with fail
  refine (begun_ok HN.out.2.1 HN.out.2.2 w2).mono ?_
  rintro e w3 ⟨B2, rfl, hP2, o3, hl2⟩
  obtain ⟨x2, A2, R2, v2⟩ := B2
  have H3 := Lib.hid (And.intro hP2 (And.intro o3 hl2))
  clear hP2 o3 hl2
  have HM : Hid (∀ cs, cs = ((List.range 103).map (hdrF 0 0 hv0 hv0)).toArray → MainSt w (w3.alloc (.cells cs 41)) x1 x2 A1 A2 R1 R2 n1 n2 w3.heap.size 0 ⟨v1, ps0 n1, []⟩ ⟨v2, ps0 n2, []⟩ 0 hv0 hv0 kn0 kn0) := by
    refine Lib.hid fun cs hcs => ?_
    obtain ⟨hP1, o2, hl1⟩ := H2.out
    obtain ⟨hP2, o3, hl2⟩ := H3.out
    have hbk := book_new (book_zero w3 cs hcs)
    have oal : Only [] w3 (w3.alloc (.cells cs 41)) := Only.alloc _ _ _
    have s1 := HO1.out.size
    have s2 := o2.size
    have s3 := o3.size
    have hlt1 := hP1.lt
    have hlt2 := hP2.lt
    refine ⟨(hP1.plain o3).plain oal, hP2.plain oal, ps0_inv HN.out.1.1, ps0_inv HN.out.2.1, Nat.le_refl _, Nat.le_refl _, hbk, fun x hx hm => ?_, fun x hx hm => ?_, fun x hx hm => ?_, ((HO1.out.trans o2).trans o3).trans oal, fun x hx => ?_, fun x hx => ?_, by omega⟩
    · have := hlt1 x hx
      have := hl2 x hm
      omega
    · have := hlt1 x hx
      have := (hbk.star.lies x hm).1
      omega
    · have := hlt2 x hx
      have := (hbk.star.lies x hm).1
      omega
    · have := hl1 x hx
      omega
    · have := hl2 x hx
      omega
  go_upto_region 10 with fail
  refine wp_build_at 41 #[] rfl bookCells (by kernel_rfl) ?_
  go_upto_region 10 with fail
  refine wp_name (fun W => MainSt w W x1 x2 A1 A2 R1 R2 n1 n2 w3.heap.size 0 ⟨v1, ps0 n1, []⟩ ⟨v2, ps0 n2, []⟩ 0 hv0 hv0 kn0 kn0) (HM.out _ rfl) ?_
  obtain ⟨kb, hkb⟩ : ∃ q, w3.heap.size = q := ⟨_, rfl⟩
  rw [hkb]
  clear hkb HM H2 H3 HO1
  intro w4 hM
  have HM := Lib.hid hM
  clear hM
  go_wp2_with fail
  go_loopg [12, 13] len (fun gk s12 s13 W => ∃ (i : Nat) (q1 q2 : PQ) (T : Int) (a b : Hv) (kI kS : Kn), i + gk = len ∧ s12 = .int .i64 i ∧ T ≤ 8 * (i : Int) ∧ a.s ≤ 4 * ((i + 9) / 10) ∧ b.s ≤ 4 * ((i + 9) / 10) ∧ MainSt w W x1 x2 A1 A2 R1 R2 n1 n2 kb i q1 q2 T a b kI kS)
  case atStart => exact ⟨0, _, _, 0, hv0, hv0, kn0, kn0, by omega, rfl, by omega, by simp [hv0], by simp [hv0], HM.out⟩
  case round =>
    obtain ⟨i, q1, q2, T, a, b, kI, kS, hi, rfl, hT, ha, hb, hM⟩ := hrel
    have HI := Lib.hid hi
    have HT := Lib.hid (And.intro hT (And.intro ha hb))
    by_cases hlt : i < len
    · obtain rfl := HAD.out (by omega)
      obtain ⟨c0, c1, c2, c3, c4, c5, c6, c7, c8, hr⟩ := (HOP.out.only hM.only) i hlt
      have HDO := Lib.hid (main_does (kind := (O i).kind) (aa := (O i).a) (xa := (O i).xa) (xb := (O i).xb) (xc := (O i).xc) (xd := (O i).xd) hM (by omega) (O i).sec hr)
      generalize (O i).kind = okind at *
      generalize (O i).h = oh at *
      generalize (O i).a = oa at *
      generalize (O i).v = ov at *
      generalize (O i).xa = oxa at *
      generalize (O i).xb = oxb at *
      generalize (O i).xc = oxc at *
      generalize (O i).xd = oxd at *
      generalize (O i).sec = osec at *
      have hii : (i : Int) < len := by omega
      have hi0 : (0 : Int) ≤ i := by omega
      have hi3 : i < 300 := by omega
      clear hM hr hi hT ha hb
      obtain ⟨xz, hxz⟩ : ∃ q, (if osec = true then x2 else x1) = q := ⟨_, rfl⟩
      rw [hxz] at HDO
      have HXZ := Lib.hid hxz
      clear hxz
      go_upto_if 60 with fail
      go_cut [13] from 61 to 61 (fun s13 wc' => s13 = .pointer (some ⟨xz, 0, none⟩) ∧ wr = wc')
      case first =>
        have hxz := HXZ.out
        cases osec with
        | false =>
          rw [if_neg (by simp)] at hxz
          subst hxz
          go_wp2_with fail
          go_meet
          exact ⟨rfl, rfl⟩
        | true =>
          rw [if_pos rfl] at hxz
          subst hxz
          go_wp2_with fail
          go_meet
          exact ⟨rfl, rfl⟩
      case rest =>
        obtain ⟨rfl, hwc⟩ := hcut
        subst hwc
        by_cases hten : i % 10 = 0
        · have hte : ((i : Int) % 10 == 0) = true := by simp; omega
          have HTE := Lib.hid hten
          clear hten
          go_wp2_with fail
          refine HDO.out.mono ?_
          rintro e w5 ⟨rfl, p1, p2, hM5⟩
          have HST := Lib.hid (main_stands (mark := 1000 * (i : Int)) hM5 (by have := HT.out.1; omega) (by have := HT.out.2.1; omega) (by have := HT.out.2.2; omega) ⟨by omega, by omega⟩)
          clear hM5 c0 c1 c2 c3 c4 c5 c6 c7 c8
          have hi10 : (0 : Int) ≤ 1000 * (i : Int) := by omega
          go_wp2_with fail
          refine HST.out.mono ?_
          rintro e w6 ⟨rfl, T6, a6, b6, kI6, kS6, hM6, hT6, ha6, hb6⟩
          have HST2 := Lib.hid (main_stands2 (mark := 1000 * (i : Int) + 500) hM6 (by have := HT.out.1; omega) (by have := HT.out.2.1; omega) (by have := HT.out.2.2; omega) ⟨by omega, by omega⟩)
          have HT6 := Lib.hid (And.intro hT6 (And.intro ha6 hb6))
          clear hM6 hT6 ha6 hb6
          go_wp2_with fail
          refine HST2.out.mono ?_
          rintro e w7 ⟨rfl, T7, a7, b7, kI7, kS7, hM7, hT7, ha7, hb7⟩
          have HF := Lib.hid (And.intro (show T7 ≤ 8 * ((i + 1 : Nat) : Int) by have := HT6.out.1; have := HT.out.1; omega) (And.intro (show a7.s ≤ 4 * ((i + 1 + 9) / 10) by have := HT6.out.2.1; have := HT.out.2.1; have := HTE.out; omega) (And.intro (show b7.s ≤ 4 * ((i + 1 + 9) / 10) by have := HT6.out.2.2; have := HT.out.2.2; have := HTE.out; omega) hM7)))
          clear hM7 hT7 ha7 hb7 HT6 HST HST2 HDO
          go_wp2_with fail
          go_roundg (len - (i + 1))
          case measure => have := HI.out; omega
          case rel => exact ⟨i + 1, _, _, T7, a7, b7, kI7, kS7, by have := HI.out; omega, by go_num, HF.out⟩
        · have hte : ((i : Int) % 10 == 0) = false := by simp; omega
          have HTE := Lib.hid hten
          clear hten
          go_wp2_with fail
          refine HDO.out.mono ?_
          rintro e w5 ⟨rfl, p1, p2, hM5⟩
          have HF := Lib.hid (And.intro (show T ≤ 8 * ((i + 1 : Nat) : Int) by have := HT.out.1; omega) (And.intro (show a.s ≤ 4 * ((i + 1 + 9) / 10) by have := HT.out.2.1; omega) (And.intro (show b.s ≤ 4 * ((i + 1 + 9) / 10) by have := HT.out.2.2; omega) hM5)))
          clear hM5 c0 c1 c2 c3 c4 c5 c6 c7 c8 HDO
          go_wp2_with fail
          go_roundg (len - (i + 1))
          case measure => have := HI.out; omega
          case rel => exact ⟨i + 1, _, _, T, a, b, kI, kS, by have := HI.out; omega, by go_num, HF.out⟩
    · have him : i = len := by omega
      subst him
      have HST := Lib.hid (main_stands (mark := 800000) hM (by omega) (by omega) (by omega) ⟨by omega, by omega⟩)
      clear hM hi hT ha hb hlt
      go_wp2_with fail
      refine HST.out.mono ?_
      rintro e w6 ⟨rfl, T6, a6, b6, kI6, kS6, hM6, hT6, ha6, hb6⟩
      have HST2 := Lib.hid (main_stands2 (mark := 900000) hM6 (by have := HT.out.1; omega) (by have := HT.out.2.1; omega) (by have := HT.out.2.2; omega) ⟨by omega, by omega⟩)
      clear hM6 hT6 ha6 hb6
      go_wp2_with fail
      refine HST2.out.mono ?_
      rintro e w7 ⟨rfl, T7, a7, b7, kI7, kS7, hM7, hT7, ha7, hb7⟩
      have HHO := Lib.hid (bk_hold hM7.bk)
      have HOF := Lib.hid hM7.only
      clear hM7 hT7 ha7 hb7
      go_wp2_with fail
      refine HHO.out.mono ?_
      rintro e w8 ⟨rfl, o8⟩
      have HO8 := Lib.hid (HOF.out.trans o8)
      clear o8
      go_wp2_with fail
      go_ret
      exact ⟨rfl, HO8.out⟩

end Go.Proofs.YtpknnamficegbaaGreatDoor

