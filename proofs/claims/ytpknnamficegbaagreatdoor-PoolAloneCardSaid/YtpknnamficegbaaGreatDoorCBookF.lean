/- The book: a list of numbers, a list of slots is kept. Conditions: the book stands in memory as BookIn says, the list apart from it; done is as DoneLaw says. -/
import Derived.Deep.RegionLaw
import Derived.Test.YtpknnamficegbaaGreatDoorCBookX
import Derived.Test.YtpknnamficegbaaGreatDoorCSlots
set_option linter.unusedVariables false
set_option linter.unusedSimpArgs false
set_option linter.unusedSectionVars false
set_option linter.unnecessarySimpa false
namespace Go.Proofs.YtpknnamficegbaaGreatDoor
open Go.RowKit

def bookL (base kb : Nat) (turn deep : Int) (a b : Hv) (kI kS : Kn) : List Pc := hdrPc kb turn deep a b :: (kin base 3 29 1 a kI ++ kin base 64 58 7 b kS)

/-- The book, nobody at work on it. -/
structure BookIn (w : World) (base kb : Nat) (turn deep : Int) (a b : Hv) (kI kS : Kn) : Prop where
  star : Star base (bookL base kb turn deep a b kI kS) w
  gi : kI.Good a.s
  gs : kS.Good b.s
  fi : kI.fs = []
  fs : kS.fs = []
  bs : base ≤ w.heap.size
  tn : 0 ≤ turn ∧ turn ≤ 10000

/-- Behind a call: the book stands again. -/
def BookOut (base kb : Nat) (turn deep : Int) (si ss : Nat) (l : List Pc) (w : World) (e : Ending) (w' : World) : Prop :=
  e = .returned (.tuple #[]) ∧ ∃ a b kI kS, BookIn w' base kb turn deep a b kI kS ∧ Goes l (bookL base kb turn deep a b kI kS) w w' ∧ a.s = si ∧ b.s = ss

def DoneLaw : Prop := ∀ (base kb : Nat) (turn : Int) (a b : Hv) (kI kS : Kn) (w : World), BookIn w base kb turn 1 a b kI kS → turn ≤ 9999 → Calls Tryz.prog 92 #[.pointer (some ⟨kb, 0, none⟩)] w (BookOut base kb (turn + 1) 0 a.s b.s (bookL base kb turn 1 a b kI kS) w)

/-- One kind's pieces, told one by one. -/
def kinX (base : Nat) (ts : TypeId) (a : Hv) (np : Nat) (xo xt : List Value) (nw : Nat) (xw : List Value) (nn : Nat) (xn : List Value) (nm : Nat) (xm : List Value) (nd : Nat) (xd : List Value) (nf : Nat) (xf xr : List Value) (mp : Pc) : List Pc :=
  [rowPc base ts 1 a.o np xo, rowPc base ts 1 a.t np xt, rowPc base ts 1 a.w nw xw, rowPc base ts 1 a.n nn xn, rowPc base 3 1 a.m nm xm, rowPc base 3 1 a.d nd xd, rowPc base ts 1 a.f nf xf, rowPc base 3 1 a.r nf xr, mp]

def mks (l : List Ent) : List Value := l.map fun x => .int .i64 x.mark
def dus (l : List Ent) : List Value := l.map fun x => .int .i64 x.due

theorem kin_eq (base : Nat) (e ts : TypeId) (sz : Nat) (a : Hv) (k : Kn) : kin base e ts sz a k = kinX base ts a k.ps.length (k.ps.map Prod.fst) (k.ps.map Prod.snd) k.es.length (k.es.map Ent.v) k.es.length (k.es.map Ent.note) k.es.length (mks k.es) k.es.length (dus k.es) k.fs.length (k.fs.map Ent.v) (mks k.fs) (memPc base e sz (k.es ++ k.fs) k.St k.rs) := rfl

theorem kin_snoc (base : Nat) (e ts : TypeId) (sz : Nat) (a : Hv) (k : Kn) (x : Ent) (St : List Nat) (rs : List Rdr) : kin base e ts sz a { k with es := k.es ++ [x], St := St, rs := rs } = kinX base ts a k.ps.length (k.ps.map Prod.fst) (k.ps.map Prod.snd) (k.es.length + 1) (k.es.map Ent.v ++ [x.v]) (k.es.length + 1) (k.es.map Ent.note ++ [x.note]) (k.es.length + 1) (mks k.es ++ [.int .i64 x.mark]) (k.es.length + 1) (dus k.es ++ [.int .i64 x.due]) k.fs.length (k.fs.map Ent.v) (mks k.fs) (memPc base e sz ((k.es ++ [x]) ++ k.fs) St rs) := by
  simp [kin, kinX, mks, dus]

/-- Behind the four appends of one answer the kind is good again. -/
theorem good_snoc {k : Kn} {s : Nat} (h : k.Good s) (f : k.fs = []) {x : Ent} {q : Value} {T : List Nat} (hx : x.note = q) (hm : 0 ≤ x.mark ∧ x.mark ≤ 10000000 ∧ x.n ≤ 4200) (hd : 0 ≤ x.due ∧ x.due ≤ 1000000) (hs : s + 1 ≤ 1000) : Kn.Good { k with es := k.es ++ [x], St := T, rs := ⟨q, x.n, x.L⟩ :: k.rs } (s + 1) := by
  subst hx
  refine ⟨fun y hy => ?_, fun y hy => ?_, fun p hp => ?_, ?_, fun y hy => ?_, fun y hy => ?_, hs⟩
  · rcases List.mem_append.1 hy with hy | hy
    · exact List.mem_cons_of_mem _ (h.wait y hy)
    · simp at hy; subst hy; exact List.mem_cons_self
  · exact List.mem_cons_of_mem _ (h.fresh y hy)
  · rcases h.pair p hp with ⟨n, L, h1, h2⟩ | ⟨y, h1, h2⟩
    · exact Or.inl ⟨n, L, List.mem_cons_of_mem _ h1, List.mem_cons_of_mem _ h2⟩
    · exact Or.inr ⟨y, h1, h2⟩
  · have := h.few
    simp
    omega
  · simp only [f, List.append_nil, List.mem_append] at hy
    rcases hy with hy | hy
    · exact h.mark y (by simp [hy])
    · simp at hy; subst hy; exact hm
  · rcases List.mem_append.1 hy with hy | hy
    · exact h.due y hy
    · simp at hy; subst hy; exact hd

set_option maxRecDepth 100000 in
set_option maxHeartbeats 4000000 in
theorem bk_Ints (D : DoneLaw) {base kb n : Nat} {turn mark : Int} {a b : Hv} {kI kS : Kn} {w : World} {v : Value} {L : List Int} (H : Star base (rowPc base 3 1 v n (ints L) :: bookL base kb turn 0 a b kI kS) w) (gi : kI.Good a.s) (gs : kS.Good b.s) (fi : kI.fs = []) (fs : kS.fs = []) (bs : base ≤ w.heap.size) (tn : 0 ≤ turn ∧ turn ≤ 9999)
    (hn : n ≤ 4200) (hm : 0 ≤ mark ∧ mark ≤ 10000000) (hs : a.s + 1 ≤ 1000) :
    Calls Tryz.prog 41 #[.pointer (some ⟨kb, 0, none⟩), v, .int .i64 mark] w (BookOut base kb (turn + 1) 0 (a.s + 1) b.s (rowPc base 3 1 v n (ints L) :: bookL base kb turn 0 a b kI kS) w) := by
  have hP : (bookL base kb turn 0 a b kI kS).Perm (hdrPc kb turn 0 a b :: (kin base 3 29 1 a kI ++ kin base 64 58 7 b kS)) := List.Perm.refl _
  have H1 := H.perm (hP.cons _)
  have hg0 := Goes.perm (w := w) (hP.cons (rowPc base 3 1 v n (ints L)))
  rw [kin_eq] at H1 hg0
  clear H hP
  obtain ⟨L0, hL0⟩ : ∃ q, rowPc base 3 1 v n (ints L) :: bookL base kb turn 0 a b kI kS = q := ⟨_, rfl⟩
  rw [hL0] at hg0 ⊢
  have HL0 := Lib.hid hL0
  have HGS := Lib.hid (And.intro gi (And.intro gs (And.intro fi fs)))
  obtain ⟨m, hml⟩ : ∃ q, kI.es.length = q := ⟨_, rfl⟩
  have hfew := gi.few
  rw [hml] at hfew H1 hg0
  have hm1 : m ≤ 1000 := by omega
  have HML := Lib.hid hml
  clear gi gs fi fs hL0 hml hfew
  obtain ⟨RR, hRR⟩ : ∃ q, kin base 64 58 7 b kS = q := ⟨_, rfl⟩
  rw [hRR] at H1 hg0
  have HRR := Lib.hid hRR
  clear hRR
  obtain ⟨jo, jt, jw, jn, jf, jm, jd, jr, sn⟩ := a
  simp only at hs
  obtain ⟨i0, hi0, hz0, hz1, hz2⟩ := info_parts info_intsT
  obtain ⟨i1, hi1, hy0, hy1, hy2⟩ := info_parts info_int
  obtain ⟨i2, hi2, hx0, hx1, hx2⟩ := info_parts info_int
  have hh : RowV w kb 103 (hdrF turn 0 ⟨jo, jt, jw, jn, jf, jm, jd, jr, sn⟩ b) 41 := H1.get 1 rfl
  have c3 : w.cell? ⟨kb, 3, none⟩ = some (.int .i64 0) := (hdr_now hh).2.2.2
  have f3 : w.frozen? ⟨kb, 3, none⟩ = false := hh.free _
  have h1 := H1.hdr 1 rfl (Only.setCell w (a := ⟨kb, 3, none⟩) (by simp) (.int .i64 1)) (hdr_deep hh 1) bs
  have HS1 := Lib.hid (And.intro h1.1 (hg0.trans h1.2))
  have HB := Lib.hid bs
  have hv : w.ownsRow base 3 1 v n (ints L) := H1.get 0 rfl
  obtain ⟨vd, vc, rfl⟩ := own_slice_any hv
  clear hv h1 hh H1 hg0 bs
  go_enter Tryz.func41, Tryz.ntmps41
  go_upto_region 1 with fail
  refine wp_star HS1.out ?_
  intro w1 s1 g1
  -- Waits
  have r1 : w1.ownsRow base 29 1 jw m (kI.es.map Ent.v) := s1.get 4 rfl
  obtain ⟨wd, wc, rfl⟩ := own_slice_any r1
  have hh1 : RowV w1 kb 103 (hdrF turn 1 ⟨jo, jt, .slice wd m wc, jn, jf, jm, jd, jr, sn⟩ b) 41 := s1.get 1 rfl
  have hb1 : base ≤ w1.heap.size := Nat.le_trans HB.out g1.only.size
  have c6a : w1.cell? ⟨kb, 6, none⟩ = some (.slice wd m wc) := hh1.cell (by omega)
  have R1 := Lib.hid (ownsRow_only r1 (Only.alloc [] w1 (.cells #[.slice vd n vc] 29)) (by simp))
  have HS1 := Lib.hid (And.intro s1 g1)
  clear s1 g1 r1 hh1
  go_upto_region 2 with (at_builtin; refine wpList_append3 (by rfl) (.tmp 17) (.tmp 19) 28 (by rfl) base 29 i0 _ 1 24 Tryz.underlying28 hi0 hz0 hz1 hz2 rfl (by decide) _ m _ rfl R1.out (some ⟨w1.heap.size, 0, none⟩) 1 1 [.slice vd n vc] rfl rfl (fun e => by cases e) (fun ad e => by cases e; exact cell_one_new _ _ _) (fun u hu => by simp at hu; subst hu; rfl) (by unfold maxLen; omega) (by omega) (by simp; omega) ?_)
  intro v2 w2 hown2 h2
  obtain ⟨o2, at2⟩ := app3 h2
  have s2 := HS1.out.1.row 4 rfl (Only.alloc [] w1 (.cells #[.slice vd n vc] 29)) hown2 o2 at2 hb1
  have hh2 : RowV w2 kb 103 (hdrF turn 1 ⟨jo, jt, .slice wd m wc, jn, jf, jm, jd, jr, sn⟩ b) 41 := s2.1.get 1 rfl
  have c6 : w2.cell? ⟨kb, 6, none⟩ = some (.slice wd m wc) := hh2.cell (by omega)
  have f6 : w2.frozen? ⟨kb, 6, none⟩ = false := hh2.free _
  obtain ⟨wd2, wc2, rfl⟩ := own_slice_any hown2
  have s3 := s2.1.hdr 1 rfl (Only.setCell w2 (a := ⟨kb, 6, none⟩) (by simp) (.slice wd2 (m + 1) wc2)) (hdrI_w hh2 (.slice wd2 (m + 1) wc2)) (Nat.le_trans hb1 s2.2.only.size)
  have HS3 : Hid (Star base (rowPc base 3 1 (.slice vd n vc) n (ints L) :: hdrPc kb turn 1 ⟨jo, jt, .slice wd2 (m + 1) wc2, jn, jf, jm, jd, jr, sn⟩ b :: (kinX base 29 ⟨jo, jt, .slice wd2 (m + 1) wc2, jn, jf, jm, jd, jr, sn⟩ kI.ps.length (kI.ps.map Prod.fst) (kI.ps.map Prod.snd) (m + 1) (kI.es.map Ent.v ++ [.slice vd n vc]) m (kI.es.map Ent.note) m (mks kI.es) m (dus kI.es) kI.fs.length (kI.fs.map Ent.v) (mks kI.fs) (memPc base 3 1 (kI.es ++ kI.fs) kI.St kI.rs) ++ RR)) _ ∧ Goes L0 _ w _) := Lib.hid (And.intro s3.1 ((HS1.out.2.trans s2.2).trans s3.2))
  clear hown2 h2 o2 at2 s2 hh2 s3 hb1 c6a
  go_upto_region 2 with fail
  clear c6 f6 c3 f3 R1 HS1
  refine wp_star HS3.out ?_
  clear HS3
  intro w3 s3 g3
  -- Note
  have r3 : w3.ownsRow base 29 1 jn m (kI.es.map Ent.note) := s3.get 5 rfl
  obtain ⟨nd, nc, rfl⟩ := own_slice_any r3
  have hh3 : RowV w3 kb 103 (hdrF turn 1 ⟨jo, jt, .slice wd2 (m + 1) wc2, .slice nd m nc, jf, jm, jd, jr, sn⟩ b) 41 := s3.get 1 rfl
  have hb3 : base ≤ w3.heap.size := Nat.le_trans HB.out g3.only.size
  have c7 : w3.cell? ⟨kb, 7, none⟩ = some (.slice nd m nc) := hh3.cell (by omega)
  have HC7 := Lib.hid (fun W (o : Only [] w3 W) => keep_cell o c7)
  have hv3 : w3.ownsRow base 3 1 (.slice vd n vc) n (ints L) := s3.get 0 rfl
  have HSR := Lib.hid (fun W (o : Only [] w3 W) => own_src (ownsRow_only hv3 o (by simp)))
  have hLn : (ints L).length = n * 1 := hv3.1
  have HLN := Lib.hid hLn
  have HR3 := Lib.hid (fun W (o : Only [] w3 W) => ownsRow_only r3 o (by simp))
  have HS3 := Lib.hid (And.intro s3 g3)
  have HO1 := Lib.hid (fun u hu => show Value.oneCell' u = true from by simp [ints] at hu; obtain ⟨x, _, rfl⟩ := hu; rfl : ∀ u ∈ ints L, u.oneCell' = true)
  have hkl := hh3.lt
  clear s3 g3 r3 hh3 hv3 hLn
  go_upto_region 2 with fail
  go_cut [] (fun wc' => ∃ qd qc nd2 nc2, Star base (rowPc base 3 1 (.slice vd n vc) n (ints L) :: hdrPc kb turn 1 ⟨jo, jt, .slice wd2 (m + 1) wc2, .slice nd2 (m + 1) nc2, jf, jm, jd, jr, sn⟩ b :: (kinX base 29 ⟨jo, jt, .slice wd2 (m + 1) wc2, .slice nd2 (m + 1) nc2, jf, jm, jd, jr, sn⟩ kI.ps.length (kI.ps.map Prod.fst) (kI.ps.map Prod.snd) (m + 1) (kI.es.map Ent.v ++ [.slice vd n vc]) (m + 1) (kI.es.map Ent.note ++ [.slice qd n qc]) m (mks kI.es) m (dus kI.es) kI.fs.length (kI.fs.map Ent.v) (mks kI.fs) (memPc base 3 1 (kI.es ++ kI.fs) ((Value.slice qd n qc).ownBlock.toList ++ kI.St) (⟨.slice qd n qc, n, L⟩ :: kI.rs)) ++ RR)) wc' ∧ Goes L0 (rowPc base 3 1 (.slice vd n vc) n (ints L) :: hdrPc kb turn 1 ⟨jo, jt, .slice wd2 (m + 1) wc2, .slice nd2 (m + 1) nc2, jf, jm, jd, jr, sn⟩ b :: (kinX base 29 ⟨jo, jt, .slice wd2 (m + 1) wc2, .slice nd2 (m + 1) nc2, jf, jm, jd, jr, sn⟩ kI.ps.length (kI.ps.map Prod.fst) (kI.ps.map Prod.snd) (m + 1) (kI.es.map Ent.v ++ [.slice vd n vc]) (m + 1) (kI.es.map Ent.note ++ [.slice qd n qc]) m (mks kI.es) m (dus kI.es) kI.fs.length (kI.fs.map Ent.v) (mks kI.fs) (memPc base 3 1 (kI.es ++ kI.fs) ((Value.slice qd n qc).ownBlock.toList ++ kI.St) (⟨.slice qd n qc, n, L⟩ :: kI.rs)) ++ RR)) w wc')
  case first =>
    go_region_law (first | (refine step_append3 (by rfl) (.tmp 28) (.tmp 29) 29 (by rfl) w3.heap.size 3 i1 _ 1 8 Tryz.underlying29 hi1 hy0 hy1 hy2 rfl (by decide) (.slice (some ⟨w3.heap.size, 0, none⟩) 0 0) 0 [] (by rfl) (World.ownsRow_lit w3.drew #[] 0 (Nat.le_refl _) (by decide) rfl) vd n vc (ints L) (by rfl) HLN.out (HSR.out w3 (Only.refl _ _)).1 (HSR.out _ ((Only.drew _ _).trans (Only.alloc _ _ _))).2 HO1.out (by unfold maxLen; omega) (by omega) (by simp) ?_; intro v4 w4 hown4 h4; rw [Nat.zero_add, List.nil_append] at hown4; obtain ⟨qd, qc, rfl⟩ := own_slice_any hown4; have o4 := ((Only.drew [] w3).trans (Only.alloc _ _ _)).past (app3 h4).1 (by simp [Value.ownBlock]); have hk4 := Nat.lt_of_lt_of_le hkl o4.size; have c74 := HC7.out _ o4) | (refine step_append3 (by rfl) (.tmp 27) (.tmp 31) 28 (by rfl) base 29 i0 _ 1 24 Tryz.underlying28 hi0 hz0 hz1 hz2 rfl (by decide) (.slice nd m nc) m (kI.es.map Ent.note) (by rfl) (HR3.out _ (o4.trans (Only.alloc _ _ _))) (some ⟨w4.heap.size, 0, none⟩) 1 1 [.slice qd n qc] (by rfl) rfl (fun e => by cases e) (fun ad e => by cases e; exact cell_one_new _ _ _) (fun u hu => by simp at hu; subst hu; rfl) (by unfold maxLen; omega) (by omega) (by have := o4.size; simp; omega) ?_; intro v5 w5 hown5 h5; obtain ⟨nd2, nc2, rfl⟩ := own_slice_any hown5; have s4 := HS3.out.1.note 10 rfl o4 hown4 (by omega) hb3; have hb4 := Nat.le_trans hb3 o4.size; have s5 := s4.1.row 5 rfl (Only.alloc [] w4 _) hown5 (app3 h5).1 (app3 h5).2 hb4; have hh5 : RowV w5 kb 103 (hdrF turn 1 ⟨jo, jt, .slice wd2 (m + 1) wc2, .slice nd m nc, jf, jm, jd, jr, sn⟩ b) 41 := s5.1.get 1 rfl; have c75 : w5.cell? ⟨kb, 7, none⟩ = some (.slice nd m nc) := hh5.cell (by omega); have f75 : w5.frozen? ⟨kb, 7, none⟩ = false := hh5.free _; have s6 := s5.1.hdr 1 rfl (Only.setCell w5 (a := ⟨kb, 7, none⟩) (by simp) (.slice nd2 (m + 1) nc2)) (hdrI_n hh5 (.slice nd2 (m + 1) nc2)) (Nat.le_trans hb4 s5.2.only.size); have HS6 := Lib.hid (And.intro s6.1 (((HS3.out.2.trans s4.2).trans s5.2).trans s6.2)); clear hown4 h4 o4 hk4 hown5 h5 s4 s5 hh5 s6 hb4))
    all_goals (go_wp2_with fail; go_meet)
    all_goals exact ⟨_, _, _, _, HS6.out⟩
  case rest =>
    obtain ⟨qd, qc, nd2, nc2, s6, g6⟩ := hcut
    obtain ⟨w6, hwk⟩ : ∃ x, x = wc := ⟨_, rfl⟩
    subst hwk
    clear HC7 HSR HLN HR3 HS3 HO1 hkl hb3 c7
    -- Mark
    have r6 : w6.ownsRow base 3 1 jm m (mks kI.es) := s6.get 6 rfl
    obtain ⟨md, mc, rfl⟩ := own_slice_any r6
    have hh6 : RowV w6 kb 103 (hdrF turn 1 ⟨jo, jt, .slice wd2 (m + 1) wc2, .slice nd2 (m + 1) nc2, jf, .slice md m mc, jd, jr, sn⟩ b) 41 := s6.get 1 rfl
    have hb6 : base ≤ w6.heap.size := Nat.le_trans HB.out g6.only.size
    have c9a : w6.cell? ⟨kb, 9, none⟩ = some (.slice md m mc) := hh6.cell (by omega)
    have R6 := Lib.hid (ownsRow_only r6 (Only.alloc [] w6 (.cells #[.int .i64 mark] 3)) (by simp))
    have HS6 := Lib.hid (And.intro s6 g6)
    clear s6 g6 r6 hh6
    go_upto_region 4 with (at_builtin; refine wpList_append3 (by rfl) (.tmp 39) (.tmp 41) 29 (by rfl) base 3 i2 _ 1 8 Tryz.underlying29 hi2 hx0 hx1 hx2 rfl (by decide) _ m _ rfl R6.out (some ⟨w6.heap.size, 0, none⟩) 1 1 [.int .i64 mark] rfl rfl (fun e => by cases e) (fun ad e => by cases e; exact cell_one_new _ _ _) (fun u hu => by simp at hu; subst hu; rfl) (by unfold maxLen; omega) (by omega) (by simp; omega) ?_)
    intro v7 w7 hown7 h7
    obtain ⟨o7, at7⟩ := app3 h7
    have s7 := HS6.out.1.row 6 rfl (Only.alloc [] w6 (.cells #[.int .i64 mark] 3)) hown7 o7 at7 hb6
    have hh7 : RowV w7 kb 103 (hdrF turn 1 ⟨jo, jt, .slice wd2 (m + 1) wc2, .slice nd2 (m + 1) nc2, jf, .slice md m mc, jd, jr, sn⟩ b) 41 := s7.1.get 1 rfl
    have c9 : w7.cell? ⟨kb, 9, none⟩ = some (.slice md m mc) := hh7.cell (by omega)
    have f9 : w7.frozen? ⟨kb, 9, none⟩ = false := hh7.free _
    obtain ⟨md2, mc2, rfl⟩ := own_slice_any hown7
    have s8 := s7.1.hdr 1 rfl (Only.setCell w7 (a := ⟨kb, 9, none⟩) (by simp) (.slice md2 (m + 1) mc2)) (hdrI_m hh7 (.slice md2 (m + 1) mc2)) (Nat.le_trans hb6 s7.2.only.size)
    have HS8 : Hid (Star base (rowPc base 3 1 (.slice vd n vc) n (ints L) :: hdrPc kb turn 1 ⟨jo, jt, .slice wd2 (m + 1) wc2, .slice nd2 (m + 1) nc2, jf, .slice md2 (m + 1) mc2, jd, jr, sn⟩ b :: (kinX base 29 ⟨jo, jt, .slice wd2 (m + 1) wc2, .slice nd2 (m + 1) nc2, jf, .slice md2 (m + 1) mc2, jd, jr, sn⟩ kI.ps.length (kI.ps.map Prod.fst) (kI.ps.map Prod.snd) (m + 1) (kI.es.map Ent.v ++ [.slice vd n vc]) (m + 1) (kI.es.map Ent.note ++ [.slice qd n qc]) (m + 1) (mks kI.es ++ [.int .i64 mark]) m (dus kI.es) kI.fs.length (kI.fs.map Ent.v) (mks kI.fs) (memPc base 3 1 (kI.es ++ kI.fs) ((Value.slice qd n qc).ownBlock.toList ++ kI.St) (⟨.slice qd n qc, n, L⟩ :: kI.rs)) ++ RR)) _ ∧ Goes L0 _ w _) := Lib.hid (And.intro s8.1 ((HS6.out.2.trans s7.2).trans s8.2))
    clear hown7 h7 o7 at7 s7 hh7 s8 hb6 c9a
    go_upto_region 4 with fail
    clear c9 f9 R6 HS6
    refine wp_star HS8.out ?_
    clear HS8
    intro w8 s8 g8
    -- Due
    have r8 : w8.ownsRow base 3 1 jd m (dus kI.es) := s8.get 7 rfl
    obtain ⟨dd, dc, rfl⟩ := own_slice_any r8
    have hh8 : RowV w8 kb 103 (hdrF turn 1 ⟨jo, jt, .slice wd2 (m + 1) wc2, .slice nd2 (m + 1) nc2, jf, .slice md2 (m + 1) mc2, .slice dd m dc, jr, sn⟩ b) 41 := s8.get 1 rfl
    have hb8 : base ≤ w8.heap.size := Nat.le_trans HB.out g8.only.size
    have c10 : w8.cell? ⟨kb, 10, none⟩ = some (.slice dd m dc) := hh8.cell (by omega)
    have c12 : w8.cell? ⟨kb, 12, none⟩ = some (.int .i64 (sn : Nat)) := hh8.cell (by omega)
    have HDU := Lib.hid (fun W (o : Only [] w8 W) => bk_due (hh8.only o (by simp)) sn (And.intro tn.1 (by have := tn.2; omega)) (by omega))
    have HR8 := Lib.hid (fun W (o : Only [] w8 W) => ownsRow_only r8 o (by simp))
    have HS8 := Lib.hid (And.intro s8 g8)
    have hkl := hh8.lt
    clear s8 g8 r8 hh8
    go_cut [] (fun wc' => ∃ du dd2 dc2, (0 ≤ du ∧ du ≤ turn + 8) ∧ Star base (rowPc base 3 1 (.slice vd n vc) n (ints L) :: hdrPc kb turn 1 ⟨jo, jt, .slice wd2 (m + 1) wc2, .slice nd2 (m + 1) nc2, jf, .slice md2 (m + 1) mc2, .slice dd2 (m + 1) dc2, jr, sn⟩ b :: (kinX base 29 ⟨jo, jt, .slice wd2 (m + 1) wc2, .slice nd2 (m + 1) nc2, jf, .slice md2 (m + 1) mc2, .slice dd2 (m + 1) dc2, jr, sn⟩ kI.ps.length (kI.ps.map Prod.fst) (kI.ps.map Prod.snd) (m + 1) (kI.es.map Ent.v ++ [.slice vd n vc]) (m + 1) (kI.es.map Ent.note ++ [.slice qd n qc]) (m + 1) (mks kI.es ++ [.int .i64 mark]) (m + 1) (dus kI.es ++ [.int .i64 du]) kI.fs.length (kI.fs.map Ent.v) (mks kI.fs) (memPc base 3 1 (kI.es ++ kI.fs) ((Value.slice qd n qc).ownBlock.toList ++ kI.St) (⟨.slice qd n qc, n, L⟩ :: kI.rs)) ++ RR)) wc' ∧ Goes L0 (rowPc base 3 1 (.slice vd n vc) n (ints L) :: hdrPc kb turn 1 ⟨jo, jt, .slice wd2 (m + 1) wc2, .slice nd2 (m + 1) nc2, jf, .slice md2 (m + 1) mc2, .slice dd2 (m + 1) dc2, jr, sn⟩ b :: (kinX base 29 ⟨jo, jt, .slice wd2 (m + 1) wc2, .slice nd2 (m + 1) nc2, jf, .slice md2 (m + 1) mc2, .slice dd2 (m + 1) dc2, jr, sn⟩ kI.ps.length (kI.ps.map Prod.fst) (kI.ps.map Prod.snd) (m + 1) (kI.es.map Ent.v ++ [.slice vd n vc]) (m + 1) (kI.es.map Ent.note ++ [.slice qd n qc]) (m + 1) (mks kI.es ++ [.int .i64 mark]) (m + 1) (dus kI.es ++ [.int .i64 du]) kI.fs.length (kI.fs.map Ent.v) (mks kI.fs) (memPc base 3 1 (kI.es ++ kI.fs) ((Value.slice qd n qc).ownBlock.toList ++ kI.St) (⟨.slice qd n qc, n, L⟩ :: kI.rs)) ++ RR)) w wc')
    case first =>
      go_region_law (first | (go_simp; go_at_call 91; refine (HDU.out _ (Only.drew _ _)).mono ?_; rintro e w' ⟨du, rfl, rfl, hd1, hd2⟩) | (refine step_append3 (by rfl) (.tmp 49) (.tmp 56) 29 (by rfl) base 3 i2 _ 1 8 Tryz.underlying29 hi2 hx0 hx1 hx2 rfl (by decide) (.slice dd m dc) m (dus kI.es) (by rfl) (HR8.out _ ((Only.drew _ _).trans (Only.alloc _ _ _))) (some ⟨w8.heap.size, 0, none⟩) 1 1 [.int .i64 du] (by rfl) rfl (fun e => by cases e) (fun ad e => by cases e; exact cell_one_new _ _ _) (fun u hu => by simp at hu; subst hu; rfl) (by unfold maxLen; omega) (by omega) (by simp; omega) ?_; intro v9 w9 hown9 h9; obtain ⟨dd2, dc2, rfl⟩ := own_slice_any hown9; have s9 := HS8.out.1.row 7 rfl ((Only.drew [] w8).trans (Only.alloc [] w8.drew _)) hown9 (app3 h9).1 (app3 h9).2 hb8; have hh9 : RowV w9 kb 103 (hdrF turn 1 ⟨jo, jt, .slice wd2 (m + 1) wc2, .slice nd2 (m + 1) nc2, jf, .slice md2 (m + 1) mc2, .slice dd m dc, jr, sn⟩ b) 41 := s9.1.get 1 rfl; have c109 : w9.cell? ⟨kb, 10, none⟩ = some (.slice dd m dc) := hh9.cell (by omega); have f109 : w9.frozen? ⟨kb, 10, none⟩ = false := hh9.free _; have s10 := s9.1.hdr 1 rfl (Only.setCell w9 (a := ⟨kb, 10, none⟩) (by simp) (.slice dd2 (m + 1) dc2)) (hdrI_d hh9 (.slice dd2 (m + 1) dc2)) (Nat.le_trans hb8 s9.2.only.size); have HS10 := Lib.hid (And.intro s10.1 ((HS8.out.2.trans s9.2).trans s10.2)); clear hown9 h9 s9 hh9 s10))
      all_goals (go_wp2_with fail; go_meet)
      all_goals exact ⟨_, _, _, ⟨hd1, hd2⟩, HS10.out⟩
    case rest =>
      obtain ⟨du, dd2, dc2, hdu, s10, g10⟩ := hcut
      obtain ⟨w10, hwk⟩ : ∃ x, x = wc := ⟨_, rfl⟩
      subst hwk
      clear HDU HR8 HS8 hkl hb8 c10 c12
      -- Seen
      have hh10 : RowV w10 kb 103 (hdrF turn 1 ⟨jo, jt, .slice wd2 (m + 1) wc2, .slice nd2 (m + 1) nc2, jf, .slice md2 (m + 1) mc2, .slice dd2 (m + 1) dc2, jr, sn⟩ b) 41 := s10.get 1 rfl
      have hb10 : base ≤ w10.heap.size := Nat.le_trans HB.out g10.only.size
      have c12 : w10.cell? ⟨kb, 12, none⟩ = some (.int .i64 (sn : Nat)) := hh10.cell (by omega)
      have f12 : w10.frozen? ⟨kb, 12, none⟩ = false := hh10.free _
      have s11 := s10.hdr 1 rfl (Only.setCell w10 (a := ⟨kb, 12, none⟩) (by simp) (.int .i64 ((sn + 1 : Nat) : Int))) (hdrI_s hh10 (sn + 1)) hb10
      rw [show ((sn + 1 : Nat) : Int) = (sn : Int) + 1 from by omega] at s11
      have HS11 := Lib.hid (And.intro s11.1 (g10.trans s11.2))
      clear s10 g10 hh10 s11 hb10
      go_upto_region 6 with fail
      clear c12 f12
      refine wp_star HS11.out ?_
      clear HS11
      intro w11 s11 g11
      have hb11 : base ≤ w11.heap.size := Nat.le_trans HB.out g11.only.size
      -- the list goes in
      have hmm : MemOk base 3 1 (kI.es ++ kI.fs) ((Value.slice qd n qc).ownBlock.toList ++ kI.St) (⟨.slice qd n qc, n, L⟩ :: kI.rs) w11 := s11.get 10 rfl
      have hvo : w11.ownsRow base 3 1 (.slice vd n vc) n (ints L) := s11.get 0 rfl
      have hap : ∀ b, (Value.slice vd n vc).ownBlock = some b → b ∉ (memPc base 3 1 (kI.es ++ kI.fs) ((Value.slice qd n qc).ownBlock.toList ++ kI.St) (⟨.slice qd n qc, n, L⟩ :: kI.rs)).bl := fun b hb hm => s11.head_apart b (by simpa [rowPc] using hb) (mem_bls.2 ⟨memPc base 3 1 (kI.es ++ kI.fs) ((Value.slice qd n qc).ownBlock.toList ++ kI.St) (⟨.slice qd n qc, n, L⟩ :: kI.rs), List.mem_cons_of_mem _ (by simp [kinX]), hm⟩)
      have hmx : MemOk base 3 1 ((kI.es ++ [(⟨.slice vd n vc, n, L, .slice qd n qc, mark, du⟩ : Ent)]) ++ kI.fs) ((Value.slice qd n qc).ownBlock.toList ++ kI.St) (⟨.slice qd n qc, n, L⟩ :: kI.rs) w11 := (hmm.cons (x := ⟨.slice vd n vc, n, L, .slice qd n qc, mark, du⟩) hvo hap).perm (by rw [List.append_assoc]; exact List.perm_middle.symm)
      have s12 := s11.merge (q' := memPc base 3 1 ((kI.es ++ [(⟨.slice vd n vc, n, L, .slice qd n qc, mark, du⟩ : Ent)]) ++ kI.fs) ((Value.slice qd n qc).ownBlock.toList ++ kI.St) (⟨.slice qd n qc, n, L⟩ :: kI.rs)) 9 rfl hmx (memPc_ok _ _ _ _ _ _) (fun b hb => by
        rcases mem_memPc.1 hb with ⟨x, hx, hxb⟩ | h1
        · simp only [List.mem_append, List.mem_singleton] at hx
          rcases hx with (hx | hx) | hx
          · exact Or.inr (mem_memPc.2 (Or.inl ⟨x, by simp [hx], hxb⟩))
          · subst hx; exact Or.inl (by simpa [rowPc] using hxb)
          · exact Or.inr (mem_memPc.2 (Or.inl ⟨x, by simp [hx], hxb⟩))
        · exact Or.inr (mem_memPc.2 (Or.inr h1)))
      have g12 := g11.trans s12.2
      have s12 := s12.1
      obtain ⟨gi, gs, fi, fs⟩ := HGS.out
      have hkn := good_snoc gi fi (x := ⟨.slice vd n vc, n, L, .slice qd n qc, mark, du⟩) (q := .slice qd n qc) (T := (Value.slice qd n qc).ownBlock.toList ++ kI.St) rfl ⟨hm.1, hm.2, hn⟩ ⟨hdu.1, by have := hdu.2; have := tn.2; simp only; omega⟩ hs
      have hke := kin_snoc base 3 29 1 ⟨jo, jt, .slice wd2 (m + 1) wc2, .slice nd2 (m + 1) nc2, jf, .slice md2 (m + 1) mc2, .slice dd2 (m + 1) dc2, jr, (sn + 1)⟩ kI ⟨.slice vd n vc, n, L, .slice qd n qc, mark, du⟩ ((Value.slice qd n qc).ownBlock.toList ++ kI.St) (⟨.slice qd n qc, n, L⟩ :: kI.rs)
      rw [HML.out] at hke
      have hlist : _ = hdrPc kb turn 1 ⟨jo, jt, .slice wd2 (m + 1) wc2, .slice nd2 (m + 1) nc2, jf, .slice md2 (m + 1) mc2, .slice dd2 (m + 1) dc2, jr, (sn + 1)⟩ b :: (kin base 3 29 1 ⟨jo, jt, .slice wd2 (m + 1) wc2, .slice nd2 (m + 1) nc2, jf, .slice md2 (m + 1) mc2, .slice dd2 (m + 1) dc2, jr, (sn + 1)⟩ { kI with es := kI.es ++ [(⟨.slice vd n vc, n, L, .slice qd n qc, mark, du⟩ : Ent)], St := (Value.slice qd n qc).ownBlock.toList ++ kI.St, rs := ⟨.slice qd n qc, n, L⟩ :: kI.rs } ++ RR) := congrArg (fun q => hdrPc kb turn 1 ⟨jo, jt, .slice wd2 (m + 1) wc2, .slice nd2 (m + 1) nc2, jf, .slice md2 (m + 1) mc2, .slice dd2 (m + 1) dc2, jr, (sn + 1)⟩ b :: (q ++ RR)) hke.symm
      have s13 := s12.congr hlist
      have g13 := g12.to hlist
      rw [← HRR.out] at s13 g13
      have hP2 : (hdrPc kb turn 1 ⟨jo, jt, .slice wd2 (m + 1) wc2, .slice nd2 (m + 1) nc2, jf, .slice md2 (m + 1) mc2, .slice dd2 (m + 1) dc2, jr, (sn + 1)⟩ b :: (kin base 3 29 1 ⟨jo, jt, .slice wd2 (m + 1) wc2, .slice nd2 (m + 1) nc2, jf, .slice md2 (m + 1) mc2, .slice dd2 (m + 1) dc2, jr, (sn + 1)⟩ { kI with es := kI.es ++ [(⟨.slice vd n vc, n, L, .slice qd n qc, mark, du⟩ : Ent)], St := (Value.slice qd n qc).ownBlock.toList ++ kI.St, rs := ⟨.slice qd n qc, n, L⟩ :: kI.rs } ++ kin base 64 58 7 b kS)).Perm (bookL base kb turn 1 ⟨jo, jt, .slice wd2 (m + 1) wc2, .slice nd2 (m + 1) nc2, jf, .slice md2 (m + 1) mc2, .slice dd2 (m + 1) dc2, jr, (sn + 1)⟩ b { kI with es := kI.es ++ [(⟨.slice vd n vc, n, L, .slice qd n qc, mark, du⟩ : Ent)], St := (Value.slice qd n qc).ownBlock.toList ++ kI.St, rs := ⟨.slice qd n qc, n, L⟩ :: kI.rs } kS) := List.Perm.refl _
      have HF := Lib.hid (And.intro (s13.perm hP2) (g13.trans (Goes.perm (w := w11) hP2)))
      have HI : Hid (BookIn w11 base kb turn 1 ⟨jo, jt, .slice wd2 (m + 1) wc2, .slice nd2 (m + 1) nc2, jf, .slice md2 (m + 1) mc2, .slice dd2 (m + 1) dc2, jr, (sn + 1)⟩ b { kI with es := kI.es ++ [(⟨.slice vd n vc, n, L, .slice qd n qc, mark, du⟩ : Ent)], St := (Value.slice qd n qc).ownBlock.toList ++ kI.St, rs := ⟨.slice qd n qc, n, L⟩ :: kI.rs } kS) := Lib.hid ⟨HF.out.1, hkn, gs, fi, fs, hb11, tn.1, by have := tn.2; omega⟩
      have HX := Lib.hid (D base kb turn ⟨jo, jt, .slice wd2 (m + 1) wc2, .slice nd2 (m + 1) nc2, jf, .slice md2 (m + 1) mc2, .slice dd2 (m + 1) dc2, jr, (sn + 1)⟩ b { kI with es := kI.es ++ [(⟨.slice vd n vc, n, L, .slice qd n qc, mark, du⟩ : Ent)], St := (Value.slice qd n qc).ownBlock.toList ++ kI.St, rs := ⟨.slice qd n qc, n, L⟩ :: kI.rs } kS w11 HI.out tn.2)
      clear hmm hvo hap hmx s11 g11 s12 g12 gi gs fi fs hkn hke hlist s13 g13 hP2 HGS
      go_wp2_with fail
      refine HX.out.mono ?_
      rintro e w12 ⟨rfl, a', b', kI', kS', hBI, hG, hsa, hsb⟩
      have HE := Lib.hid (And.intro hBI (And.intro (HF.out.2.trans hG) (And.intro hsa hsb)))
      clear hBI hG hsa hsb
      go_wp2_with fail
      go_end0
      exact ⟨rfl, a', b', kI', kS', HE.out⟩

set_option maxRecDepth 100000 in
set_option maxHeartbeats 4000000 in
theorem bk_Slots (D : DoneLaw) {base kb n : Nat} {turn mark : Int} {a b : Hv} {kI kS : Kn} {w : World} {v : Value} {L : List Int} (H : Star base (rowPc base 64 7 v n (ints L) :: bookL base kb turn 0 a b kI kS) w) (gi : kI.Good a.s) (gs : kS.Good b.s) (fi : kI.fs = []) (fs : kS.fs = []) (bs : base ≤ w.heap.size) (tn : 0 ≤ turn ∧ turn ≤ 9999)
    (hn : n ≤ 4200) (hm : 0 ≤ mark ∧ mark ≤ 10000000) (hs : b.s + 1 ≤ 1000) :
    Calls Tryz.prog 40 #[.pointer (some ⟨kb, 0, none⟩), v, .int .i64 mark] w (BookOut base kb (turn + 1) 0 a.s (b.s + 1) (rowPc base 64 7 v n (ints L) :: bookL base kb turn 0 a b kI kS) w) := by
  have hP : (bookL base kb turn 0 a b kI kS).Perm (hdrPc kb turn 0 a b :: (kin base 64 58 7 b kS ++ kin base 3 29 1 a kI)) := (List.perm_append_comm).cons _
  have H1 := H.perm (hP.cons _)
  have hg0 := Goes.perm (w := w) (hP.cons (rowPc base 64 7 v n (ints L)))
  rw [kin_eq] at H1 hg0
  clear H hP
  obtain ⟨L0, hL0⟩ : ∃ q, rowPc base 64 7 v n (ints L) :: bookL base kb turn 0 a b kI kS = q := ⟨_, rfl⟩
  rw [hL0] at hg0 ⊢
  have HL0 := Lib.hid hL0
  have HGS := Lib.hid (And.intro gi (And.intro gs (And.intro fi fs)))
  obtain ⟨m, hml⟩ : ∃ q, kS.es.length = q := ⟨_, rfl⟩
  have hfew := gs.few
  rw [hml] at hfew H1 hg0
  have hm1 : m ≤ 1000 := by omega
  have HML := Lib.hid hml
  clear gi gs fi fs hL0 hml hfew
  obtain ⟨RR, hRR⟩ : ∃ q, kin base 3 29 1 a kI = q := ⟨_, rfl⟩
  rw [hRR] at H1 hg0
  have HRR := Lib.hid hRR
  clear hRR
  obtain ⟨jo, jt, jw, jn, jf, jm, jd, jr, sn⟩ := b
  simp only at hs
  obtain ⟨i0, hi0, hz0, hz1, hz2⟩ := info_parts info_slotsT
  obtain ⟨i1, hi1, hy0, hy1, hy2⟩ := info_parts info_Slot
  obtain ⟨i2, hi2, hx0, hx1, hx2⟩ := info_parts info_int
  have hh : RowV w kb 103 (hdrF turn 0 a ⟨jo, jt, jw, jn, jf, jm, jd, jr, sn⟩) 41 := H1.get 1 rfl
  have c3 : w.cell? ⟨kb, 3, none⟩ = some (.int .i64 0) := (hdr_now hh).2.2.2
  have f3 : w.frozen? ⟨kb, 3, none⟩ = false := hh.free _
  have h1 := H1.hdr 1 rfl (Only.setCell w (a := ⟨kb, 3, none⟩) (by simp) (.int .i64 1)) (hdr_deep hh 1) bs
  have HS1 := Lib.hid (And.intro h1.1 (hg0.trans h1.2))
  have HB := Lib.hid bs
  have hv : w.ownsRow base 64 7 v n (ints L) := H1.get 0 rfl
  obtain ⟨vd, vc, rfl⟩ := own_slice_any hv
  clear hv h1 hh H1 hg0 bs
  go_enter Tryz.func40, Tryz.ntmps40
  go_upto_region 1 with fail
  refine wp_star HS1.out ?_
  intro w1 s1 g1
  -- Waits
  have r1 : w1.ownsRow base 58 1 jw m (kS.es.map Ent.v) := s1.get 4 rfl
  obtain ⟨wd, wc, rfl⟩ := own_slice_any r1
  have hh1 : RowV w1 kb 103 (hdrF turn 1 a ⟨jo, jt, .slice wd m wc, jn, jf, jm, jd, jr, sn⟩) 41 := s1.get 1 rfl
  have hb1 : base ≤ w1.heap.size := Nat.le_trans HB.out g1.only.size
  have c6a : w1.cell? ⟨kb, 33, none⟩ = some (.slice wd m wc) := hh1.cell (by omega)
  have R1 := Lib.hid (ownsRow_only r1 (Only.alloc [] w1 (.cells #[.slice vd n vc] 58)) (by simp))
  have HS1 := Lib.hid (And.intro s1 g1)
  clear s1 g1 r1 hh1
  go_upto_region 2 with (at_builtin; refine wpList_append3 (by rfl) (.tmp 17) (.tmp 19) 32 (by rfl) base 58 i0 _ 1 24 Tryz.underlying32 hi0 hz0 hz1 hz2 rfl (by decide) _ m _ rfl R1.out (some ⟨w1.heap.size, 0, none⟩) 1 1 [.slice vd n vc] rfl rfl (fun e => by cases e) (fun ad e => by cases e; exact cell_one_new _ _ _) (fun u hu => by simp at hu; subst hu; rfl) (by unfold maxLen; omega) (by omega) (by simp; omega) ?_)
  intro v2 w2 hown2 h2
  obtain ⟨o2, at2⟩ := app3 h2
  have s2 := HS1.out.1.row 4 rfl (Only.alloc [] w1 (.cells #[.slice vd n vc] 58)) hown2 o2 at2 hb1
  have hh2 : RowV w2 kb 103 (hdrF turn 1 a ⟨jo, jt, .slice wd m wc, jn, jf, jm, jd, jr, sn⟩) 41 := s2.1.get 1 rfl
  have c6 : w2.cell? ⟨kb, 33, none⟩ = some (.slice wd m wc) := hh2.cell (by omega)
  have f6 : w2.frozen? ⟨kb, 33, none⟩ = false := hh2.free _
  obtain ⟨wd2, wc2, rfl⟩ := own_slice_any hown2
  have s3 := s2.1.hdr 1 rfl (Only.setCell w2 (a := ⟨kb, 33, none⟩) (by simp) (.slice wd2 (m + 1) wc2)) (hdrS_w hh2 (.slice wd2 (m + 1) wc2)) (Nat.le_trans hb1 s2.2.only.size)
  have HS3 : Hid (Star base (rowPc base 64 7 (.slice vd n vc) n (ints L) :: hdrPc kb turn 1 a ⟨jo, jt, .slice wd2 (m + 1) wc2, jn, jf, jm, jd, jr, sn⟩ :: (kinX base 58 ⟨jo, jt, .slice wd2 (m + 1) wc2, jn, jf, jm, jd, jr, sn⟩ kS.ps.length (kS.ps.map Prod.fst) (kS.ps.map Prod.snd) (m + 1) (kS.es.map Ent.v ++ [.slice vd n vc]) m (kS.es.map Ent.note) m (mks kS.es) m (dus kS.es) kS.fs.length (kS.fs.map Ent.v) (mks kS.fs) (memPc base 64 7 (kS.es ++ kS.fs) kS.St kS.rs) ++ RR)) _ ∧ Goes L0 _ w _) := Lib.hid (And.intro s3.1 ((HS1.out.2.trans s2.2).trans s3.2))
  clear hown2 h2 o2 at2 s2 hh2 s3 hb1 c6a
  go_upto_region 2 with fail
  clear c6 f6 c3 f3 R1 HS1
  refine wp_star HS3.out ?_
  clear HS3
  intro w3 s3 g3
  -- Note
  have r3 : w3.ownsRow base 58 1 jn m (kS.es.map Ent.note) := s3.get 5 rfl
  obtain ⟨nd, nc, rfl⟩ := own_slice_any r3
  have hh3 : RowV w3 kb 103 (hdrF turn 1 a ⟨jo, jt, .slice wd2 (m + 1) wc2, .slice nd m nc, jf, jm, jd, jr, sn⟩) 41 := s3.get 1 rfl
  have hb3 : base ≤ w3.heap.size := Nat.le_trans HB.out g3.only.size
  have c7 : w3.cell? ⟨kb, 34, none⟩ = some (.slice nd m nc) := hh3.cell (by omega)
  have HC7 := Lib.hid (fun W (o : Only [] w3 W) => keep_cell o c7)
  have hv3 : w3.ownsRow base 64 7 (.slice vd n vc) n (ints L) := s3.get 0 rfl
  have HSR := Lib.hid (fun W (o : Only [] w3 W) => own_src (ownsRow_only hv3 o (by simp)))
  have hLn : (ints L).length = n * 7 := hv3.1
  have HLN := Lib.hid hLn
  have HR3 := Lib.hid (fun W (o : Only [] w3 W) => ownsRow_only r3 o (by simp))
  have HS3 := Lib.hid (And.intro s3 g3)
  have HO1 := Lib.hid (fun u hu => show Value.oneCell' u = true from by simp [ints] at hu; obtain ⟨x, _, rfl⟩ := hu; rfl : ∀ u ∈ ints L, u.oneCell' = true)
  have hkl := hh3.lt
  clear s3 g3 r3 hh3 hv3 hLn
  go_upto_region 2 with fail
  go_cut [] (fun wc' => ∃ qd qc nd2 nc2, Star base (rowPc base 64 7 (.slice vd n vc) n (ints L) :: hdrPc kb turn 1 a ⟨jo, jt, .slice wd2 (m + 1) wc2, .slice nd2 (m + 1) nc2, jf, jm, jd, jr, sn⟩ :: (kinX base 58 ⟨jo, jt, .slice wd2 (m + 1) wc2, .slice nd2 (m + 1) nc2, jf, jm, jd, jr, sn⟩ kS.ps.length (kS.ps.map Prod.fst) (kS.ps.map Prod.snd) (m + 1) (kS.es.map Ent.v ++ [.slice vd n vc]) (m + 1) (kS.es.map Ent.note ++ [.slice qd n qc]) m (mks kS.es) m (dus kS.es) kS.fs.length (kS.fs.map Ent.v) (mks kS.fs) (memPc base 64 7 (kS.es ++ kS.fs) ((Value.slice qd n qc).ownBlock.toList ++ kS.St) (⟨.slice qd n qc, n, L⟩ :: kS.rs)) ++ RR)) wc' ∧ Goes L0 (rowPc base 64 7 (.slice vd n vc) n (ints L) :: hdrPc kb turn 1 a ⟨jo, jt, .slice wd2 (m + 1) wc2, .slice nd2 (m + 1) nc2, jf, jm, jd, jr, sn⟩ :: (kinX base 58 ⟨jo, jt, .slice wd2 (m + 1) wc2, .slice nd2 (m + 1) nc2, jf, jm, jd, jr, sn⟩ kS.ps.length (kS.ps.map Prod.fst) (kS.ps.map Prod.snd) (m + 1) (kS.es.map Ent.v ++ [.slice vd n vc]) (m + 1) (kS.es.map Ent.note ++ [.slice qd n qc]) m (mks kS.es) m (dus kS.es) kS.fs.length (kS.fs.map Ent.v) (mks kS.fs) (memPc base 64 7 (kS.es ++ kS.fs) ((Value.slice qd n qc).ownBlock.toList ++ kS.St) (⟨.slice qd n qc, n, L⟩ :: kS.rs)) ++ RR)) w wc')
  case first =>
    go_region_law (first | (refine step_append3 (by rfl) (.tmp 28) (.tmp 29) 58 (by rfl) w3.heap.size 64 i1 _ 7 56 Tryz.underlying58 hi1 hy0 hy1 hy2 rfl (by decide) (.slice (some ⟨w3.heap.size, 0, none⟩) 0 0) 0 [] (by rfl) (World.ownsRow_lit w3.drew #[] 0 (Nat.le_refl _) (by decide) rfl) vd n vc (ints L) (by rfl) HLN.out (HSR.out w3 (Only.refl _ _)).1 (HSR.out _ ((Only.drew _ _).trans (Only.alloc _ _ _))).2 HO1.out (by unfold maxLen; omega) (by omega) (by simp) ?_; intro v4 w4 hown4 h4; rw [Nat.zero_add, List.nil_append] at hown4; obtain ⟨qd, qc, rfl⟩ := own_slice_any hown4; have o4 := ((Only.drew [] w3).trans (Only.alloc _ _ _)).past (app3 h4).1 (by simp [Value.ownBlock]); have hk4 := Nat.lt_of_lt_of_le hkl o4.size; have c74 := HC7.out _ o4) | (refine step_append3 (by rfl) (.tmp 27) (.tmp 31) 32 (by rfl) base 58 i0 _ 1 24 Tryz.underlying32 hi0 hz0 hz1 hz2 rfl (by decide) (.slice nd m nc) m (kS.es.map Ent.note) (by rfl) (HR3.out _ (o4.trans (Only.alloc _ _ _))) (some ⟨w4.heap.size, 0, none⟩) 1 1 [.slice qd n qc] (by rfl) rfl (fun e => by cases e) (fun ad e => by cases e; exact cell_one_new _ _ _) (fun u hu => by simp at hu; subst hu; rfl) (by unfold maxLen; omega) (by omega) (by have := o4.size; simp; omega) ?_; intro v5 w5 hown5 h5; obtain ⟨nd2, nc2, rfl⟩ := own_slice_any hown5; have s4 := HS3.out.1.note 10 rfl o4 hown4 (by omega) hb3; have hb4 := Nat.le_trans hb3 o4.size; have s5 := s4.1.row 5 rfl (Only.alloc [] w4 _) hown5 (app3 h5).1 (app3 h5).2 hb4; have hh5 : RowV w5 kb 103 (hdrF turn 1 a ⟨jo, jt, .slice wd2 (m + 1) wc2, .slice nd m nc, jf, jm, jd, jr, sn⟩) 41 := s5.1.get 1 rfl; have c75 : w5.cell? ⟨kb, 34, none⟩ = some (.slice nd m nc) := hh5.cell (by omega); have f75 : w5.frozen? ⟨kb, 34, none⟩ = false := hh5.free _; have s6 := s5.1.hdr 1 rfl (Only.setCell w5 (a := ⟨kb, 34, none⟩) (by simp) (.slice nd2 (m + 1) nc2)) (hdrS_n hh5 (.slice nd2 (m + 1) nc2)) (Nat.le_trans hb4 s5.2.only.size); have HS6 := Lib.hid (And.intro s6.1 (((HS3.out.2.trans s4.2).trans s5.2).trans s6.2)); clear hown4 h4 o4 hk4 hown5 h5 s4 s5 hh5 s6 hb4))
    all_goals (go_wp2_with fail; go_meet)
    all_goals exact ⟨_, _, _, _, HS6.out⟩
  case rest =>
    obtain ⟨qd, qc, nd2, nc2, s6, g6⟩ := hcut
    obtain ⟨w6, hwk⟩ : ∃ x, x = wc := ⟨_, rfl⟩
    subst hwk
    clear HC7 HSR HLN HR3 HS3 HO1 hkl hb3 c7
    -- Mark
    have r6 : w6.ownsRow base 3 1 jm m (mks kS.es) := s6.get 6 rfl
    obtain ⟨md, mc, rfl⟩ := own_slice_any r6
    have hh6 : RowV w6 kb 103 (hdrF turn 1 a ⟨jo, jt, .slice wd2 (m + 1) wc2, .slice nd2 (m + 1) nc2, jf, .slice md m mc, jd, jr, sn⟩) 41 := s6.get 1 rfl
    have hb6 : base ≤ w6.heap.size := Nat.le_trans HB.out g6.only.size
    have c9a : w6.cell? ⟨kb, 36, none⟩ = some (.slice md m mc) := hh6.cell (by omega)
    have R6 := Lib.hid (ownsRow_only r6 (Only.alloc [] w6 (.cells #[.int .i64 mark] 3)) (by simp))
    have HS6 := Lib.hid (And.intro s6 g6)
    clear s6 g6 r6 hh6
    go_upto_region 4 with (at_builtin; refine wpList_append3 (by rfl) (.tmp 39) (.tmp 41) 29 (by rfl) base 3 i2 _ 1 8 Tryz.underlying29 hi2 hx0 hx1 hx2 rfl (by decide) _ m _ rfl R6.out (some ⟨w6.heap.size, 0, none⟩) 1 1 [.int .i64 mark] rfl rfl (fun e => by cases e) (fun ad e => by cases e; exact cell_one_new _ _ _) (fun u hu => by simp at hu; subst hu; rfl) (by unfold maxLen; omega) (by omega) (by simp; omega) ?_)
    intro v7 w7 hown7 h7
    obtain ⟨o7, at7⟩ := app3 h7
    have s7 := HS6.out.1.row 6 rfl (Only.alloc [] w6 (.cells #[.int .i64 mark] 3)) hown7 o7 at7 hb6
    have hh7 : RowV w7 kb 103 (hdrF turn 1 a ⟨jo, jt, .slice wd2 (m + 1) wc2, .slice nd2 (m + 1) nc2, jf, .slice md m mc, jd, jr, sn⟩) 41 := s7.1.get 1 rfl
    have c9 : w7.cell? ⟨kb, 36, none⟩ = some (.slice md m mc) := hh7.cell (by omega)
    have f9 : w7.frozen? ⟨kb, 36, none⟩ = false := hh7.free _
    obtain ⟨md2, mc2, rfl⟩ := own_slice_any hown7
    have s8 := s7.1.hdr 1 rfl (Only.setCell w7 (a := ⟨kb, 36, none⟩) (by simp) (.slice md2 (m + 1) mc2)) (hdrS_m hh7 (.slice md2 (m + 1) mc2)) (Nat.le_trans hb6 s7.2.only.size)
    have HS8 : Hid (Star base (rowPc base 64 7 (.slice vd n vc) n (ints L) :: hdrPc kb turn 1 a ⟨jo, jt, .slice wd2 (m + 1) wc2, .slice nd2 (m + 1) nc2, jf, .slice md2 (m + 1) mc2, jd, jr, sn⟩ :: (kinX base 58 ⟨jo, jt, .slice wd2 (m + 1) wc2, .slice nd2 (m + 1) nc2, jf, .slice md2 (m + 1) mc2, jd, jr, sn⟩ kS.ps.length (kS.ps.map Prod.fst) (kS.ps.map Prod.snd) (m + 1) (kS.es.map Ent.v ++ [.slice vd n vc]) (m + 1) (kS.es.map Ent.note ++ [.slice qd n qc]) (m + 1) (mks kS.es ++ [.int .i64 mark]) m (dus kS.es) kS.fs.length (kS.fs.map Ent.v) (mks kS.fs) (memPc base 64 7 (kS.es ++ kS.fs) ((Value.slice qd n qc).ownBlock.toList ++ kS.St) (⟨.slice qd n qc, n, L⟩ :: kS.rs)) ++ RR)) _ ∧ Goes L0 _ w _) := Lib.hid (And.intro s8.1 ((HS6.out.2.trans s7.2).trans s8.2))
    clear hown7 h7 o7 at7 s7 hh7 s8 hb6 c9a
    go_upto_region 4 with fail
    clear c9 f9 R6 HS6
    refine wp_star HS8.out ?_
    clear HS8
    intro w8 s8 g8
    -- Due
    have r8 : w8.ownsRow base 3 1 jd m (dus kS.es) := s8.get 7 rfl
    obtain ⟨dd, dc, rfl⟩ := own_slice_any r8
    have hh8 : RowV w8 kb 103 (hdrF turn 1 a ⟨jo, jt, .slice wd2 (m + 1) wc2, .slice nd2 (m + 1) nc2, jf, .slice md2 (m + 1) mc2, .slice dd m dc, jr, sn⟩) 41 := s8.get 1 rfl
    have hb8 : base ≤ w8.heap.size := Nat.le_trans HB.out g8.only.size
    have c10 : w8.cell? ⟨kb, 37, none⟩ = some (.slice dd m dc) := hh8.cell (by omega)
    have c12 : w8.cell? ⟨kb, 39, none⟩ = some (.int .i64 (sn : Nat)) := hh8.cell (by omega)
    have HDU := Lib.hid (fun W (o : Only [] w8 W) => bk_due (hh8.only o (by simp)) sn (And.intro tn.1 (by have := tn.2; omega)) (by omega))
    have HR8 := Lib.hid (fun W (o : Only [] w8 W) => ownsRow_only r8 o (by simp))
    have HS8 := Lib.hid (And.intro s8 g8)
    have hkl := hh8.lt
    clear s8 g8 r8 hh8
    go_cut [] (fun wc' => ∃ du dd2 dc2, (0 ≤ du ∧ du ≤ turn + 8) ∧ Star base (rowPc base 64 7 (.slice vd n vc) n (ints L) :: hdrPc kb turn 1 a ⟨jo, jt, .slice wd2 (m + 1) wc2, .slice nd2 (m + 1) nc2, jf, .slice md2 (m + 1) mc2, .slice dd2 (m + 1) dc2, jr, sn⟩ :: (kinX base 58 ⟨jo, jt, .slice wd2 (m + 1) wc2, .slice nd2 (m + 1) nc2, jf, .slice md2 (m + 1) mc2, .slice dd2 (m + 1) dc2, jr, sn⟩ kS.ps.length (kS.ps.map Prod.fst) (kS.ps.map Prod.snd) (m + 1) (kS.es.map Ent.v ++ [.slice vd n vc]) (m + 1) (kS.es.map Ent.note ++ [.slice qd n qc]) (m + 1) (mks kS.es ++ [.int .i64 mark]) (m + 1) (dus kS.es ++ [.int .i64 du]) kS.fs.length (kS.fs.map Ent.v) (mks kS.fs) (memPc base 64 7 (kS.es ++ kS.fs) ((Value.slice qd n qc).ownBlock.toList ++ kS.St) (⟨.slice qd n qc, n, L⟩ :: kS.rs)) ++ RR)) wc' ∧ Goes L0 (rowPc base 64 7 (.slice vd n vc) n (ints L) :: hdrPc kb turn 1 a ⟨jo, jt, .slice wd2 (m + 1) wc2, .slice nd2 (m + 1) nc2, jf, .slice md2 (m + 1) mc2, .slice dd2 (m + 1) dc2, jr, sn⟩ :: (kinX base 58 ⟨jo, jt, .slice wd2 (m + 1) wc2, .slice nd2 (m + 1) nc2, jf, .slice md2 (m + 1) mc2, .slice dd2 (m + 1) dc2, jr, sn⟩ kS.ps.length (kS.ps.map Prod.fst) (kS.ps.map Prod.snd) (m + 1) (kS.es.map Ent.v ++ [.slice vd n vc]) (m + 1) (kS.es.map Ent.note ++ [.slice qd n qc]) (m + 1) (mks kS.es ++ [.int .i64 mark]) (m + 1) (dus kS.es ++ [.int .i64 du]) kS.fs.length (kS.fs.map Ent.v) (mks kS.fs) (memPc base 64 7 (kS.es ++ kS.fs) ((Value.slice qd n qc).ownBlock.toList ++ kS.St) (⟨.slice qd n qc, n, L⟩ :: kS.rs)) ++ RR)) w wc')
    case first =>
      go_region_law (first | (go_simp; go_at_call 91; refine (HDU.out _ (Only.drew _ _)).mono ?_; rintro e w' ⟨du, rfl, rfl, hd1, hd2⟩) | (refine step_append3 (by rfl) (.tmp 49) (.tmp 56) 29 (by rfl) base 3 i2 _ 1 8 Tryz.underlying29 hi2 hx0 hx1 hx2 rfl (by decide) (.slice dd m dc) m (dus kS.es) (by rfl) (HR8.out _ ((Only.drew _ _).trans (Only.alloc _ _ _))) (some ⟨w8.heap.size, 0, none⟩) 1 1 [.int .i64 du] (by rfl) rfl (fun e => by cases e) (fun ad e => by cases e; exact cell_one_new _ _ _) (fun u hu => by simp at hu; subst hu; rfl) (by unfold maxLen; omega) (by omega) (by simp; omega) ?_; intro v9 w9 hown9 h9; obtain ⟨dd2, dc2, rfl⟩ := own_slice_any hown9; have s9 := HS8.out.1.row 7 rfl ((Only.drew [] w8).trans (Only.alloc [] w8.drew _)) hown9 (app3 h9).1 (app3 h9).2 hb8; have hh9 : RowV w9 kb 103 (hdrF turn 1 a ⟨jo, jt, .slice wd2 (m + 1) wc2, .slice nd2 (m + 1) nc2, jf, .slice md2 (m + 1) mc2, .slice dd m dc, jr, sn⟩) 41 := s9.1.get 1 rfl; have c109 : w9.cell? ⟨kb, 37, none⟩ = some (.slice dd m dc) := hh9.cell (by omega); have f109 : w9.frozen? ⟨kb, 37, none⟩ = false := hh9.free _; have s10 := s9.1.hdr 1 rfl (Only.setCell w9 (a := ⟨kb, 37, none⟩) (by simp) (.slice dd2 (m + 1) dc2)) (hdrS_d hh9 (.slice dd2 (m + 1) dc2)) (Nat.le_trans hb8 s9.2.only.size); have HS10 := Lib.hid (And.intro s10.1 ((HS8.out.2.trans s9.2).trans s10.2)); clear hown9 h9 s9 hh9 s10))
      all_goals (go_wp2_with fail; go_meet)
      all_goals exact ⟨_, _, _, ⟨hd1, hd2⟩, HS10.out⟩
    case rest =>
      obtain ⟨du, dd2, dc2, hdu, s10, g10⟩ := hcut
      obtain ⟨w10, hwk⟩ : ∃ x, x = wc := ⟨_, rfl⟩
      subst hwk
      clear HDU HR8 HS8 hkl hb8 c10 c12
      -- Seen
      have hh10 : RowV w10 kb 103 (hdrF turn 1 a ⟨jo, jt, .slice wd2 (m + 1) wc2, .slice nd2 (m + 1) nc2, jf, .slice md2 (m + 1) mc2, .slice dd2 (m + 1) dc2, jr, sn⟩) 41 := s10.get 1 rfl
      have hb10 : base ≤ w10.heap.size := Nat.le_trans HB.out g10.only.size
      have c12 : w10.cell? ⟨kb, 39, none⟩ = some (.int .i64 (sn : Nat)) := hh10.cell (by omega)
      have f12 : w10.frozen? ⟨kb, 39, none⟩ = false := hh10.free _
      have s11 := s10.hdr 1 rfl (Only.setCell w10 (a := ⟨kb, 39, none⟩) (by simp) (.int .i64 ((sn + 1 : Nat) : Int))) (hdrS_s hh10 (sn + 1)) hb10
      rw [show ((sn + 1 : Nat) : Int) = (sn : Int) + 1 from by omega] at s11
      have HS11 := Lib.hid (And.intro s11.1 (g10.trans s11.2))
      clear s10 g10 hh10 s11 hb10
      go_upto_region 6 with fail
      clear c12 f12
      refine wp_star HS11.out ?_
      clear HS11
      intro w11 s11 g11
      have hb11 : base ≤ w11.heap.size := Nat.le_trans HB.out g11.only.size
      -- the list goes in
      have hmm : MemOk base 64 7 (kS.es ++ kS.fs) ((Value.slice qd n qc).ownBlock.toList ++ kS.St) (⟨.slice qd n qc, n, L⟩ :: kS.rs) w11 := s11.get 10 rfl
      have hvo : w11.ownsRow base 64 7 (.slice vd n vc) n (ints L) := s11.get 0 rfl
      have hap : ∀ b, (Value.slice vd n vc).ownBlock = some b → b ∉ (memPc base 64 7 (kS.es ++ kS.fs) ((Value.slice qd n qc).ownBlock.toList ++ kS.St) (⟨.slice qd n qc, n, L⟩ :: kS.rs)).bl := fun b hb hm => s11.head_apart b (by simpa [rowPc] using hb) (mem_bls.2 ⟨memPc base 64 7 (kS.es ++ kS.fs) ((Value.slice qd n qc).ownBlock.toList ++ kS.St) (⟨.slice qd n qc, n, L⟩ :: kS.rs), List.mem_cons_of_mem _ (by simp [kinX]), hm⟩)
      have hmx : MemOk base 64 7 ((kS.es ++ [(⟨.slice vd n vc, n, L, .slice qd n qc, mark, du⟩ : Ent)]) ++ kS.fs) ((Value.slice qd n qc).ownBlock.toList ++ kS.St) (⟨.slice qd n qc, n, L⟩ :: kS.rs) w11 := (hmm.cons (x := ⟨.slice vd n vc, n, L, .slice qd n qc, mark, du⟩) hvo hap).perm (by rw [List.append_assoc]; exact List.perm_middle.symm)
      have s12 := s11.merge (q' := memPc base 64 7 ((kS.es ++ [(⟨.slice vd n vc, n, L, .slice qd n qc, mark, du⟩ : Ent)]) ++ kS.fs) ((Value.slice qd n qc).ownBlock.toList ++ kS.St) (⟨.slice qd n qc, n, L⟩ :: kS.rs)) 9 rfl hmx (memPc_ok _ _ _ _ _ _) (fun b hb => by
        rcases mem_memPc.1 hb with ⟨x, hx, hxb⟩ | h1
        · simp only [List.mem_append, List.mem_singleton] at hx
          rcases hx with (hx | hx) | hx
          · exact Or.inr (mem_memPc.2 (Or.inl ⟨x, by simp [hx], hxb⟩))
          · subst hx; exact Or.inl (by simpa [rowPc] using hxb)
          · exact Or.inr (mem_memPc.2 (Or.inl ⟨x, by simp [hx], hxb⟩))
        · exact Or.inr (mem_memPc.2 (Or.inr h1)))
      have g12 := g11.trans s12.2
      have s12 := s12.1
      obtain ⟨gi, gs, fi, fs⟩ := HGS.out
      have hkn := good_snoc gs fs (x := ⟨.slice vd n vc, n, L, .slice qd n qc, mark, du⟩) (q := .slice qd n qc) (T := (Value.slice qd n qc).ownBlock.toList ++ kS.St) rfl ⟨hm.1, hm.2, hn⟩ ⟨hdu.1, by have := hdu.2; have := tn.2; simp only; omega⟩ hs
      have hke := kin_snoc base 64 58 7 ⟨jo, jt, .slice wd2 (m + 1) wc2, .slice nd2 (m + 1) nc2, jf, .slice md2 (m + 1) mc2, .slice dd2 (m + 1) dc2, jr, (sn + 1)⟩ kS ⟨.slice vd n vc, n, L, .slice qd n qc, mark, du⟩ ((Value.slice qd n qc).ownBlock.toList ++ kS.St) (⟨.slice qd n qc, n, L⟩ :: kS.rs)
      rw [HML.out] at hke
      have hlist : _ = hdrPc kb turn 1 a ⟨jo, jt, .slice wd2 (m + 1) wc2, .slice nd2 (m + 1) nc2, jf, .slice md2 (m + 1) mc2, .slice dd2 (m + 1) dc2, jr, (sn + 1)⟩ :: (kin base 64 58 7 ⟨jo, jt, .slice wd2 (m + 1) wc2, .slice nd2 (m + 1) nc2, jf, .slice md2 (m + 1) mc2, .slice dd2 (m + 1) dc2, jr, (sn + 1)⟩ { kS with es := kS.es ++ [(⟨.slice vd n vc, n, L, .slice qd n qc, mark, du⟩ : Ent)], St := (Value.slice qd n qc).ownBlock.toList ++ kS.St, rs := ⟨.slice qd n qc, n, L⟩ :: kS.rs } ++ RR) := congrArg (fun q => hdrPc kb turn 1 a ⟨jo, jt, .slice wd2 (m + 1) wc2, .slice nd2 (m + 1) nc2, jf, .slice md2 (m + 1) mc2, .slice dd2 (m + 1) dc2, jr, (sn + 1)⟩ :: (q ++ RR)) hke.symm
      have s13 := s12.congr hlist
      have g13 := g12.to hlist
      rw [← HRR.out] at s13 g13
      have hP2 : (hdrPc kb turn 1 a ⟨jo, jt, .slice wd2 (m + 1) wc2, .slice nd2 (m + 1) nc2, jf, .slice md2 (m + 1) mc2, .slice dd2 (m + 1) dc2, jr, (sn + 1)⟩ :: (kin base 64 58 7 ⟨jo, jt, .slice wd2 (m + 1) wc2, .slice nd2 (m + 1) nc2, jf, .slice md2 (m + 1) mc2, .slice dd2 (m + 1) dc2, jr, (sn + 1)⟩ { kS with es := kS.es ++ [(⟨.slice vd n vc, n, L, .slice qd n qc, mark, du⟩ : Ent)], St := (Value.slice qd n qc).ownBlock.toList ++ kS.St, rs := ⟨.slice qd n qc, n, L⟩ :: kS.rs } ++ kin base 3 29 1 a kI)).Perm (bookL base kb turn 1 a ⟨jo, jt, .slice wd2 (m + 1) wc2, .slice nd2 (m + 1) nc2, jf, .slice md2 (m + 1) mc2, .slice dd2 (m + 1) dc2, jr, (sn + 1)⟩ kI { kS with es := kS.es ++ [(⟨.slice vd n vc, n, L, .slice qd n qc, mark, du⟩ : Ent)], St := (Value.slice qd n qc).ownBlock.toList ++ kS.St, rs := ⟨.slice qd n qc, n, L⟩ :: kS.rs }) := (List.perm_append_comm).cons _
      have HF := Lib.hid (And.intro (s13.perm hP2) (g13.trans (Goes.perm (w := w11) hP2)))
      have HI : Hid (BookIn w11 base kb turn 1 a ⟨jo, jt, .slice wd2 (m + 1) wc2, .slice nd2 (m + 1) nc2, jf, .slice md2 (m + 1) mc2, .slice dd2 (m + 1) dc2, jr, (sn + 1)⟩ kI { kS with es := kS.es ++ [(⟨.slice vd n vc, n, L, .slice qd n qc, mark, du⟩ : Ent)], St := (Value.slice qd n qc).ownBlock.toList ++ kS.St, rs := ⟨.slice qd n qc, n, L⟩ :: kS.rs }) := Lib.hid ⟨HF.out.1, gi, hkn, fi, fs, hb11, tn.1, by have := tn.2; omega⟩
      have HX := Lib.hid (D base kb turn a ⟨jo, jt, .slice wd2 (m + 1) wc2, .slice nd2 (m + 1) nc2, jf, .slice md2 (m + 1) mc2, .slice dd2 (m + 1) dc2, jr, (sn + 1)⟩ kI { kS with es := kS.es ++ [(⟨.slice vd n vc, n, L, .slice qd n qc, mark, du⟩ : Ent)], St := (Value.slice qd n qc).ownBlock.toList ++ kS.St, rs := ⟨.slice qd n qc, n, L⟩ :: kS.rs } w11 HI.out tn.2)
      clear hmm hvo hap hmx s11 g11 s12 g12 gi gs fi fs hkn hke hlist s13 g13 hP2 HGS
      go_wp2_with fail
      refine HX.out.mono ?_
      rintro e w12 ⟨rfl, a', b', kI', kS', hBI, hG, hsa, hsb⟩
      have HE := Lib.hid (And.intro hBI (And.intro (HF.out.2.trans hG) (And.intro hsa hsb)))
      clear hBI hG hsa hsb
      go_wp2_with fail
      go_end0
      exact ⟨rfl, a', b', kI', kS', HE.out⟩

end Go.Proofs.YtpknnamficegbaaGreatDoor

