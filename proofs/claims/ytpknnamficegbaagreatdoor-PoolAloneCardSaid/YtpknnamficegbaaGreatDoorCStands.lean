/- The statement's sameSlots and stands: both pools tell the same, and the book keeps what the program's told. Conditions: the pair stands in memory as PairAt says, the book as BookIn says, apart from it. -/
import Derived.Deep.RegionHeld3
import Derived.Test.YtpknnamficegbaaGreatDoorCRawF
import Derived.Test.YtpknnamficegbaaGreatDoorCRefZ
import Derived.Test.YtpknnamficegbaaGreatDoorCLookX
import Derived.Test.YtpknnamficegbaaGreatDoorCBookO
set_option linter.unusedVariables false
set_option linter.unusedSimpArgs false
set_option linter.unusedSectionVars false
set_option linter.unnecessarySimpa false
namespace Go.Proofs.YtpknnamficegbaaGreatDoor
open Go.RowKit

set_option maxRecDepth 100000 in
set_option maxHeartbeats 1000000 in
theorem same_slots10 {w : World} {b1 b2 n : Nat} {v1 v2 : Value} {L : List Int} (h1 : w.ownsRow b1 64 7 v1 n (ints L)) (h2 : w.ownsRow b2 64 7 v2 n (ints L)) (hn : n ≤ 100000) :
    Calls Tryz.prog 35 #[v1, v2] w fun e w' => e = .returned (.bool true) ∧ Only [] w w' := by
  obtain ⟨d1, c1, rfl⟩ := own_slice_any h1
  obtain ⟨d2, c2, rfl⟩ := own_slice_any h2
  have H1 := Lib.hid h1
  have H2 := Lib.hid h2
  clear h1 h2
  go_enter Tryz.func35, Tryz.ntmps35
  go_wp2_with fail
  go_loopg [5] n (fun gk s5 W => ∃ i : Nat, i + gk = n ∧ s5 = .int .i64 i ∧ Only [] w W)
  case atStart => exact ⟨0, by omega, rfl, Only.refl _ _⟩
  case round =>
    obtain ⟨i, hi, rfl, hO⟩ := hrel
    by_cases hlt : i < n
    · obtain ⟨g1, c9, e9, k1⟩ := own_at (ownsRow_only H1.out hO (by simp)) (by omega)
      cases e9
      obtain ⟨g2, c9, e9, k2⟩ := own_at (ownsRow_only H2.out hO (by simp)) (by omega)
      cases e9
      have hl : L.length = n * 7 := by have := H1.out.1; simpa [ints] using this
      obtain ⟨x0, x1, x2, x3, x4, x5, x6, e0, e1, e2, e3, e4, e5, e6⟩ := seven hl hlt
      have hk : ∀ (j : Nat) (x : Int), L[j]? = some x → (ints L)[j]? = some (.int .i64 x) := fun j x h => by simp [ints, h]
      have p0 := k1 _ _ (hk _ _ e0)
      have p1 := k1 _ _ (hk _ _ e1)
      have p2 := k1 _ _ (hk _ _ e2)
      have p3 := k1 _ _ (hk _ _ e3)
      have p4 := k1 _ _ (hk _ _ e4)
      have p5 := k1 _ _ (hk _ _ e5)
      have p6 := k1 _ _ (hk _ _ e6)
      have q0 := k2 _ _ (hk _ _ e0)
      have q1 := k2 _ _ (hk _ _ e1)
      have q2 := k2 _ _ (hk _ _ e2)
      have q3 := k2 _ _ (hk _ _ e3)
      have q4 := k2 _ _ (hk _ _ e4)
      have q5 := k2 _ _ (hk _ _ e5)
      have q6 := k2 _ _ (hk _ _ e6)
      have HI := Lib.hid hi
      have HO := Lib.hid hO
      have hii : (i : Int) < n := by omega
      have hi0 : (0 : Int) ≤ i := by omega
      clear k1 k2 hk e0 e1 e2 e3 e4 e5 e6 hl hi hO
      go_wp2_with fail
      go_quiet (fail)
      go_wp2_with fail
      go_roundg (n - (i + 1))
      case measure => have := HI.out; omega
      case rel => exact ⟨i + 1, by have := HI.out; omega, by go_num, HO.out.trans (Only.drewN [] _ _)⟩
    · have HO := Lib.hid hO
      have hin : i = n := by omega
      subst hin
      clear hi hlt hO
      go_wp2_with fail
      go_ret
      exact ⟨rfl, HO.out⟩

/-- What the program's pool has told so far: its slots, its free places. -/
def ToldSt (w0 W : World) (n : Nat) (s : Ps) (q : Nat) (os of : Option Value) : Prop :=
  Only [] w0 W ∧ (∀ v, os = some v → W.ownsRow w0.heap.size 64 7 v n (ints (slotsI s.S n))) ∧ (∀ v, of = some v → W.ownsRow w0.heap.size 3 1 v q (ints ((trail n s.nx s.hd).map fun (x : Nat) => (x : Int)))) ∧ ∀ v u, os = some v → of = some u → ApartV v u

theorem ToldSt.o {w0 W : World} {n q : Nat} {s : Ps} {os of : Option Value} (h : ToldSt w0 W n s q os of) : Only [] w0 W := h.1

theorem ToldSt.slots {w0 W w' : World} {n q : Nat} {s : Ps} {of : Option Value} {v : Value} (h : ToldSt w0 W n s q none of) (hown : w'.ownsRow W.heap.size 64 7 v n (slotsCells s.S n)) (o : Only [] W w') : ToldSt w0 w' n s q (some v) of := by
  rw [slotsCells_ints] at hown
  refine ⟨h.1.trans o, fun u e => (by cases e; exact ownsRow_base hown h.1.size), fun u e => ownsRow_only (h.2.2.1 u e) o (by simp), fun u t e e2 b hb hb2 => ?_⟩
  cases e
  have := (hown.lt b hb).1
  have := ((h.2.2.1 t e2).lt b hb2).2
  omega

theorem ToldSt.free {w0 W w' : World} {n : Nat} {s : Ps} {os : Option Value} {v : Value} (h : ToldSt w0 W n s (trail n s.nx s.hd).length os none) (hown : w'.ownsRow W.heap.size 3 1 v (trail n s.nx s.hd).length ((trail n s.nx s.hd).map fun x => Value.int .i64 (x : Nat))) (o : Only [] W w') : ToldSt w0 w' n s (trail n s.nx s.hd).length os (some v) := by
  rw [trail_ints] at hown
  refine ⟨h.1.trans o, fun u e => ownsRow_only (h.2.1 u e) o (by simp), fun u e => (by cases e; exact ownsRow_base hown h.1.size), fun u t e e2 b hb hb2 => ?_⟩
  cases e2
  have := (hown.lt b hb2).1
  have := ((h.2.1 u e).lt b hb).2
  omega

/-- Behind stands: the book has kept four lists more. -/
def StandsOut (B : PB) (n : Nat) (s : Ps) (hs : List Int) (base kb : Nat) (turn : Int) (si ss : Nat) (l : List Pc) (w : World) (w' : World) : Prop :=
  PairAt w' B n s hs ∧ ∃ a b kI kS, BookIn w' base kb turn 0 a b kI kS ∧ Goes l (bookL base kb turn 0 a b kI kS) w w' ∧ a.s = si ∧ b.s = ss

set_option maxRecDepth 100000 in
set_option maxHeartbeats 4000000 in
theorem stands_ok {w : World} {B : PB} {n base kb : Nat} {s : Ps} {hs : List Int} {turn mark : Int} {a b : Hv} {kI kS : Kn} (H : PairAt w B n s hs) (K : BookIn w base kb turn 0 a b kI kS) (D : ∀ x, x ∈ B.bl → x ∉ bls (bookL base kb turn 0 a b kI kS)) (ht : turn ≤ 9000) (ha : a.s + 2 ≤ 1000) (hb : b.s + 2 ≤ 1000) (hm : 0 ≤ mark ∧ mark ≤ 1000000) :
    Calls Tryz.prog 7 #[.pointer (some ⟨B.x, 0, none⟩), .pointer (some ⟨kb, 0, none⟩), .int .i64 mark] w fun e w' => e = .returned (.bool true) ∧ StandsOut B n s hs base kb (turn + 4) (a.s + 2) (b.s + 2) (bookL base kb turn 0 a b kI kS) w w' := by
  have hmn := PoolR.many H.prog
  obtain ⟨L0, hL0⟩ : ∃ q, bookL base kb turn 0 a b kI kS = q := ⟨_, rfl⟩
  obtain ⟨q, hq⟩ : ∃ q, (trail n s.nx s.hd).length = q := ⟨_, rfl⟩
  have hqn : q ≤ n := by
    rw [← hq]
    exact (trail_rng H.doc.q.hdr H.doc.q.rng).2
  have HQ := Lib.hid hq
  have HBL := Lib.hid (fun x hx => H.lt x hx : ∀ x, x ∈ B.bl → x < w.heap.size)
  have HDD := Lib.hid (fun x hx => hL0 ▸ D x hx : ∀ x, x ∈ B.bl → x ∉ bls L0)
  obtain ⟨sa, hsa⟩ : ∃ q, a.s = q := ⟨_, rfl⟩
  obtain ⟨sb, hsb⟩ : ∃ q, b.s = q := ⟨_, rfl⟩
  have H0 := Lib.hid (show PairAt w B n s hs ∧ (∃ a b kI kS, BookIn w base kb turn 0 a b kI kS ∧ Goes L0 (bookL base kb turn 0 a b kI kS) w w ∧ a.s = sa ∧ b.s = sb) from ⟨H, a, b, kI, kS, K, hL0 ▸ Goes.refl _ w, hsa, hsb⟩)
  rw [hL0, hsa, hsb]
  rw [hsa] at ha
  rw [hsb] at hb
  have htn := K.tn.1
  obtain ⟨hm1, hm2⟩ := hm
  clear H K D hL0 hq hsa hsb
  go_enter Tryz.func7, Tryz.ntmps7
  go_wp2_with fail
  go_loopg [7, 8, 9] 2 (fun gk s7 s8 s9 W => ∃ i : Nat, i + gk = 2 ∧ s7 = .int .i64 i ∧ PairAt W B n s hs ∧ ∃ a b kI kS, BookIn W base kb (turn + 2 * i) 0 a b kI kS ∧ Goes L0 (bookL base kb (turn + 2 * i) 0 a b kI kS) w W ∧ a.s = sa + i ∧ b.s = sb + i)
  case atStart =>
    obtain ⟨h1, a, b, kI, kS, h2, h3, h4, h5⟩ := H0.out
    refine ⟨0, by omega, rfl, h1, a, b, kI, kS, ?_, ?_, h4, h5⟩
    · rw [show turn + 2 * ((0 : Nat) : Int) = turn from by omega]; exact h2
    · rw [show turn + 2 * ((0 : Nat) : Int) = turn from by omega]; exact h3
  case round =>
    clear H0
    obtain ⟨i, hi, rfl, hP, a, b, kI, kS, hK, hG, hsa, hsb⟩ := hrel
    by_cases hlt : i < 2
    · have HI := Lib.hid hi
      have HP := Lib.hid hP
      have HK := Lib.hid (And.intro hK (And.intro hG (And.intro hsa hsb)))
      have hii : (i : Int) < 2 := by omega
      have hi0 : (0 : Int) ≤ (i : Int) := by omega
      have z0 : wr.cell? ⟨B.x, 0, none⟩ = some (.pointer (some ⟨B.A.p, 0, none⟩)) := hP.head.cell 0 rfl
      have z1 : wr.cell? ⟨B.x, 1, none⟩ = some (.pointer (some ⟨B.R.r, 0, none⟩)) := hP.head.cell 1 rfl
      have HZ : Hid (∀ W, Only [] wr W → W.cell? ⟨B.x, 0, none⟩ = some (.pointer (some ⟨B.A.p, 0, none⟩)) ∧ W.cell? ⟨B.x, 1, none⟩ = some (.pointer (some ⟨B.R.r, 0, none⟩))) := Lib.hid (fun W o => ⟨keep_cell o z0, keep_cell o z1⟩)
      have HSL : Hid (∀ W of, ToldSt wr W n s q none of → Calls Tryz.prog 14 #[.pointer (some ⟨B.A.p, 0, none⟩)] W fun e w' => ∃ v, e = .returned v ∧ ToldSt wr w' n s q (some v) of) := Lib.hid (fun W of h => (rpool_slots B.A n s.hd s.S s.t s.nx s.fa W (PoolR.only HP.out.prog h.1 (by simp))).mono fun e w' x => by obtain ⟨v, he, h1, h2⟩ := x; exact ⟨v, he, h.slots h1 h2⟩)
      have HFR : Hid (∀ W os, ToldSt wr W n s q os none → Calls Tryz.prog 34 #[.pointer (some ⟨B.A.p, 0, none⟩)] W fun e w' => ∃ v, e = .returned v ∧ ToldSt wr w' n s q os (some v)) := Lib.hid (fun W os h => by
        have hq := HQ.out
        subst hq
        exact (rpool_free B.A n s.hd s.S s.t s.nx s.fa W (PoolR.only HP.out.prog h.1 (by simp))).mono fun e w' x => by obtain ⟨v, he, h1, h2⟩ := x; exact ⟨v, he, h.free h1 h2⟩)
      have hst : ToldSt wr wr.drew n s q none none := ⟨Only.drew [] wr, fun v e => (by cases e), fun v e => (by cases e), fun v u e => (by cases e)⟩
      clear hi hP hK hG hsa hsb
      go_upto_region 4 with fail
      go_cut [8, 9] from 14 to 23 (fun s8 s9 wc' => ToldSt wr wc' n s q (some s8) (some s9))
      case first =>
        go_region_held3 (fun W => W.cell? ⟨B.x, 0, none⟩ = some (.pointer (some ⟨B.A.p, 0, none⟩))) (first | with_reducible exact (HZ.out _ hst.o).1) (first | (go_at_call 14; refine (HSL.out _ _ hst).mono ?_; rintro e w3 ⟨vs, rfl, hst⟩) | (go_at_call 34; refine (HFR.out _ _ hst).mono ?_; rintro e w4 ⟨vf, rfl, hst⟩))
        all_goals (go_wp2_with fail; go_meet)
        all_goals exact hst
      case rest =>
        obtain ⟨w2, hwk⟩ : ∃ x, x = wc := ⟨_, rfl⟩
        subst hwk
        have hS := hcut.2.1 u8 rfl
        have hF := hcut.2.2.1 u9 rfl
        have hA := hcut.2.2.2 u8 u9 rfl rfl
        have o2 := hcut.1
        obtain ⟨sd, sc, rfl⟩ := own_slice_any hS
        obtain ⟨fd, fc, rfl⟩ := own_slice_any hF
        obtain ⟨T, hTT⟩ : ∃ q, (trail n s.nx s.hd).map (fun (x : Nat) => (x : Int)) = q := ⟨_, rfl⟩
        have hTq : T.length = q := by rw [← hTT, ← HQ.out]; simp
        rw [hTT] at hF
        have HT := Lib.hid (And.intro hTT hTq)
        have HRW := Lib.hid (And.intro hS (And.intro hF (And.intro hA o2)))
        have HZ2 : Hid (∀ W, Only [] w2 W → W.cell? ⟨B.x, 0, none⟩ = some (.pointer (some ⟨B.A.p, 0, none⟩)) ∧ W.cell? ⟨B.x, 1, none⟩ = some (.pointer (some ⟨B.R.r, 0, none⟩))) := Lib.hid (fun W o => HZ.out W (o2.trans o))
        have HRS : Hid (∀ W, Only [] w2 W → Calls Tryz.prog 36 #[.pointer (some ⟨B.R.r, 0, none⟩)] W fun e w' => ∃ v, e = .returned v ∧ w'.ownsRow W.heap.size 64 7 v n (ints (slotsI s.S n)) ∧ Only [] W w') := Lib.hid (fun W o => (ref_slots (RefQ.only HP.out.doc (HRW.out.2.2.2.trans o) (by simp))).mono fun e w' x => by rw [slotsCells_ints] at x; exact x)
        have HRL : Hid (∀ W, Only [] w2 W → Calls Tryz.prog 38 #[.pointer (some ⟨B.R.r, 0, none⟩)] W fun e w' => ∃ v, e = .returned v ∧ w'.ownsRow W.heap.size 3 1 v q (ints T) ∧ Only [] W w') := Lib.hid (fun W o => (ref_list (RefQ.only HP.out.doc (HRW.out.2.2.2.trans o) (by simp))).mono fun e w' x => by rw [trail_ints, HT.out.1, HQ.out] at x; exact x)
        have HSM : Hid (∀ W v b', Only [] w2 W → W.ownsRow b' 64 7 v n (ints (slotsI s.S n)) → Calls Tryz.prog 35 #[.slice sd n sc, v] W fun e w' => e = .returned (.bool true) ∧ Only [] W w') := Lib.hid (fun W v b' o h => same_slots10 (ownsRow_only HRW.out.1 o (by simp)) h (by omega))
        have HRI : Hid (∀ W v b', Only [] w2 W → W.ownsRow b' 3 1 v q (ints T) → Calls Tryz.prog 37 #[.slice fd q fc, v] W fun e w' => e = .returned (.bool true) ∧ Only [] W w') := Lib.hid (fun W v b' o h => runs_own (ownsRow_only HRW.out.2.1 o (by simp)) h (by have := HT.out.2; omega))
        have HFP : Hid (∀ W, Only [] w2 W → Calls Tryz.prog 16 #[.pointer (some ⟨B.A.p, 0, none⟩)] W fun e w' => e = .returned (.int .i64 s.fa) ∧ W = w') := Lib.hid (fun W o => rpool_faults B.A n s.S s.hd s.t s.nx s.fa W (PoolR.only HP.out.prog (HRW.out.2.2.2.trans o) (by simp)))
        have HFD : Hid (∀ W, Only [] w2 W → Calls Tryz.prog 39 #[.pointer (some ⟨B.R.r, 0, none⟩)] W fun e w' => e = .returned (.int .i64 s.fa) ∧ W = w') := Lib.hid (fun W o => ref_faults (RefQ.only HP.out.doc (HRW.out.2.2.2.trans o) (by simp)))
        obtain ⟨fau, hfau⟩ : ∃ q, s.fa = q := ⟨_, rfl⟩
        rw [hfau] at HFP HFD
        have hO : Only [] w2 w2.drew := Only.drew [] w2
        clear hcut hS hF hA o2 hTT hTq z0 z1 hst HSL HFR HZ hfau
        obtain ⟨z0, z1⟩ := HZ2.out w2 (Only.refl _ _)
        go_upto_region 5 with fail
        go_region_held3 (fun W => W.cell? ⟨B.x, 0, none⟩ = some (.pointer (some ⟨B.A.p, 0, none⟩)) ∧ W.cell? ⟨B.x, 1, none⟩ = some (.pointer (some ⟨B.R.r, 0, none⟩))) (first | with_reducible exact HZ2.out _ hO) (first | (go_at_call 36; refine (HRS.out _ hO).mono ?_; rintro e w3 ⟨vq, rfl, hvq, o3⟩; have hO := hO.trans o3) | (go_at_call 35; refine (HSM.out _ _ _ hO hvq).mono ?_; rintro e w4 ⟨rfl, o4⟩; have hO := hO.trans o4) | (go_at_call 38; refine (HRL.out _ hO).mono ?_; rintro e w5 ⟨vl, rfl, hvl, o5⟩; have hO := hO.trans o5) | (go_at_call 37; refine (HRI.out _ _ _ hO hvl).mono ?_; rintro e w6 ⟨rfl, o6⟩; have hO := hO.trans o6) | (go_at_call 16; refine (HFP.out _ hO).mono ?_; rintro e w' ⟨rfl, rfl⟩) | (go_at_call 39; refine (HFD.out _ hO).mono ?_; rintro e w' ⟨rfl, rfl⟩))
        have HO := Lib.hid hO
        clear hO z0 z1 HRS HRL HSM HRI HFP HFD HZ2 hvq hvl o3 o4 o5 o6
        go_upto_region 7 with fail
        have HO9 := Lib.hid (HRW.out.2.2.2.trans HO.out)
        have HRS : Hid (w6.ownsRow wr.heap.size 64 7 (.slice sd n sc) n (ints (slotsI s.S n)) ∧ w6.ownsRow wr.heap.size 3 1 (.slice fd q fc) q (ints T) ∧ ApartV (.slice sd n sc) (.slice fd q fc)) := Lib.hid ⟨ownsRow_only HRW.out.1 HO.out (by simp), ownsRow_only HRW.out.2.1 HO.out (by simp), HRW.out.2.2.1⟩
        have HB9 := Lib.hid (Nat.le_trans HK.out.1.bs HO9.out.size)
        have HP1 := Lib.hid (HK.out.1.star.push (p := rowPc base 64 7 (.slice sd n sc) n (ints (slotsI s.S n))) HO9.out (ownsRow_base HRS.out.1 HK.out.1.bs) (rowPc_ok _ _ _ _ _ _) HK.out.1.bs (fun x hx => HRS.out.1.lt x (by simpa [rowPc] using hx)))
        have HBS := Lib.hid (bk_Slots done_law (mark := mark + 10 * (i : Int)) HP1.out.1 HK.out.1.gi HK.out.1.gs HK.out.1.fi HK.out.1.fs HB9.out ⟨by omega, by omega⟩ (by omega) ⟨by omega, by omega⟩ (by have := HK.out.2.2.2; omega))
        clear HRW HO
        have hm10 : (0 : Int) ≤ 10 * (i : Int) := by omega
        go_wp2_with fail
        refine HBS.out.mono ?_
        rintro e w7 ⟨rfl, a1, b1, kI1, kS1, hB1, hG1, hs1, hs2⟩
        have hlowL : ∀ x, x ∈ bls (bookL base kb (turn + 2 * (i : Int)) 0 a b kI kS) → x < wr.heap.size := fun x hx => (HK.out.1.star.lies x hx).2
        have hfo : ∀ x, (Value.slice fd q fc).ownBlock = some x → x ∉ bls (rowPc base 64 7 (.slice sd n sc) n (ints (slotsI s.S n)) :: bookL base kb (turn + 2 * (i : Int)) 0 a b kI kS) := fun x hx hm => by
          simp only [bls, List.flatMap_cons, List.mem_append] at hm
          rcases hm with hm | hm
          · exact HRS.out.2.2 x (by simpa [rowPc] using hm) hx
          · have := hlowL x hm
            have := (HRS.out.2.1.lt x hx).1
            omega
        have hrf := ownsRow_only HRS.out.2.1 hG1.only hfo
        have hb1 := Nat.le_trans HB9.out hG1.only.size
        have hP2 := hB1.star.cons (p := rowPc base 3 1 (.slice fd q fc) q (ints T)) (ownsRow_base hrf HK.out.1.bs) (rowPc_ok _ _ _ _ _ _) (fun x hx => by have := hrf.lt x (by simpa [rowPc] using hx); have := HK.out.1.bs; omega) (fun x hx hm => by
          have hx' : (Value.slice fd q fc).ownBlock = some x := by simpa [rowPc] using hx
          rcases hG1.new x hm with h1 | h1
          · exact hfo x hx' h1
          · have := (HRS.out.2.1.lt x hx').2; omega)
        have HBI := Lib.hid (bk_Ints done_law (mark := mark + 10 * (i : Int) + 5) hP2 hB1.gi hB1.gs hB1.fi hB1.fs hb1 ⟨by omega, by omega⟩ (by omega) ⟨by omega, by omega⟩ (by have := HK.out.2.2.1; omega))
        have HG1 := Lib.hid (And.intro hG1 (And.intro hs1 hs2))
        have HRF := Lib.hid hrf
        have HLW := Lib.hid (And.intro hlowL hfo)
        clear hB1 hG1 hs1 hs2 hlowL hfo hrf hb1 hP2 HBS
        go_wp2_with fail
        refine HBI.out.mono ?_
        rintro e w8 ⟨rfl, a2, b2, kI2, kS2, hB2, hG2, hs3, hs4⟩
        have hdis : ∀ x, x ∈ B.bl → x ∉ bls (bookL base kb (turn + 2 * (i : Int)) 0 a b kI kS) := fun x hx hm => by
          rcases HK.out.2.1.new x hm with h1 | h1
          · exact HDD.out x hx h1
          · have := HBL.out x hx; omega
        have hxlt : ∀ x, x ∈ B.bl → x < wr.heap.size := fun x hx => HP.out.lt x hx
        have hd1 : ∀ x, x ∈ B.bl → x ∉ bls (rowPc base 64 7 (.slice sd n sc) n (ints (slotsI s.S n)) :: bookL base kb (turn + 2 * (i : Int)) 0 a b kI kS) := fun x hx hm => by
          simp only [bls, List.flatMap_cons, List.mem_append] at hm
          rcases hm with hm | hm
          · have := (HRS.out.1.lt x (by simpa [rowPc] using hm)).1
            have := hxlt x hx
            omega
          · exact hdis x hx hm
        have hd2 : ∀ x, x ∈ B.bl → x ∉ bls (rowPc base 3 1 (.slice fd q fc) q (ints T) :: bookL base kb (turn + 2 * (i : Int) + 1) 0 a1 b1 kI1 kS1) := fun x hx hm => by
          simp only [bls, List.flatMap_cons, List.mem_append] at hm
          rcases hm with hm | hm
          · have := (HRS.out.2.1.lt x (by simpa [rowPc] using hm)).1
            have := hxlt x hx
            omega
          · rcases HG1.out.1.new x hm with h1 | h1
            · exact hd1 x hx h1
            · have := hxlt x hx
              have := HO9.out.size
              omega
        have hPend := ((HP.out.plain HO9.out).only HG1.out.1.only hd1).only hG2.only hd2
        have hpush : Goes (bookL base kb (turn + 2 * (i : Int) + 1) 0 a1 b1 kI1 kS1) (rowPc base 3 1 (.slice fd q fc) q (ints T) :: bookL base kb (turn + 2 * (i : Int) + 1) 0 a1 b1 kI1 kS1) w7 w7 → True := fun _ => trivial
        have hGend : Goes L0 (bookL base kb (turn + 2 * (i : Int) + 1 + 1) 0 a2 b2 kI2 kS2) w w8 := by
          have g1 : Goes L0 (bookL base kb (turn + 2 * (i : Int) + 1) 0 a1 b1 kI1 kS1) w w7 := (HK.out.2.1.trans HP1.out.2).trans HG1.out.1
          refine ⟨⟨hG2.only.os.trans g1.only.os, hG2.only.tape.trans g1.only.tape, hG2.only.output.trans g1.only.output, Nat.le_trans g1.only.size hG2.only.size, fun x hx hn => (hG2.only.block x (Nat.lt_of_lt_of_le hx g1.only.size) fun hm => ?_).trans (g1.only.block x hx hn)⟩, fun x hm => ?_⟩
          · simp only [bls, List.flatMap_cons, List.mem_append] at hm
            rcases hm with hm | hm
            · have := (HRS.out.2.1.lt x (by simpa [rowPc] using hm)).1
              have := HK.out.2.1.only.size
              omega
            · rcases g1.new x hm with h1 | h1
              · exact hn h1
              · omega
          · rcases hG2.new x hm with h1 | h1
            · simp only [bls, List.flatMap_cons, List.mem_append] at h1
              rcases h1 with h1 | h1
              · have := (HRS.out.2.1.lt x (by simpa [rowPc] using h1)).1
                have := HK.out.2.1.only.size
                exact Or.inr (by omega)
              · exact g1.new x h1
            · exact Or.inr (Nat.le_trans g1.only.size h1)
        rw [show turn + 2 * (i : Int) + 1 + 1 = turn + 2 * ((i + 1 : Nat) : Int) from by omega] at hB2 hGend
        have HF := Lib.hid (And.intro hPend (And.intro hB2 (And.intro hGend (And.intro (show a2.s = sa + (i + 1) by have := HK.out.2.2.1; have := HG1.out.2.1; omega) (show b2.s = sb + (i + 1) by have := HK.out.2.2.2; have := HG1.out.2.2; omega)))))
        clear hB2 hG2 hs3 hs4 hdis hxlt hd1 hd2 hPend hpush hGend HBI HG1 HRF HLW HRS HP1 HO9 HB9
        go_wp2_with fail
        go_roundg (2 - (i + 1))
        case measure => have := HI.out; omega
        case rel => exact ⟨i + 1, by have := HI.out; omega, by go_num, HF.out.1, a2, b2, kI2, kS2, HF.out.2⟩
    · have him : i = 2 := by omega
      subst him
      have HF : Hid (StandsOut B n s hs base kb (turn + 4) (sa + 2) (sb + 2) L0 w wr) := Lib.hid ⟨hP, a, b, kI, kS, hK, hG, hsa, hsb⟩
      clear hi hP hK hG hsa hsb hlt
      go_wp2_with fail
      go_ret
      exact ⟨rfl, HF.out⟩

end Go.Proofs.YtpknnamficegbaaGreatDoor

