/- The book: the lists that are due are written full, the others wait on. Condition: the kind's pieces stand in memory, apart from the others. -/
import Derived.Deep.RegionLaw
import Derived.Test.YtpknnamficegbaaGreatDoorCBookX
import Derived.Test.YtpknnamficegbaaGreatDoorCBookG
set_option linter.unusedVariables false
set_option linter.unusedSimpArgs false
set_option linter.unusedSectionVars false
set_option linter.unnecessarySimpa false
namespace Go.Proofs.YtpknnamficegbaaGreatDoor
open Go.RowKit


/-- Behind the call: some wait on, the others are written. -/
def MarkSOut (base kb : Nat) (turn deep : Int) (a b : Hv) (RR l : List Pc) (w : World) (e : Ending) (w' : World) : Prop :=
  e = .returned (.tuple #[]) ∧ ∃ A k, Star base (hdrPc kb turn deep a A :: (kin base 64 58 7 A k ++ RR)) w' ∧ Goes l (hdrPc kb turn deep a A :: (kin base 64 58 7 A k ++ RR)) w w' ∧ k.Good A.s ∧ A.s = b.s

set_option maxRecDepth 100000 in
set_option maxHeartbeats 8000000 in
theorem bkmark_Slots {base kb : Nat} {turn deep : Int} {a b : Hv} {k : Kn} {RR : List Pc} {w : World} (H : Star base (hdrPc kb turn deep a b :: (kin base 64 58 7 b k ++ RR)) w) (gk : k.Good b.s) (fs : k.fs = []) (bs : base ≤ w.heap.size) (tn : 0 ≤ turn ∧ turn ≤ 10000) :
    Calls Tryz.prog 135 #[.pointer (some ⟨kb, 0, none⟩)] w (MarkSOut base kb turn deep a b RR (hdrPc kb turn deep a b :: (kin base 64 58 7 b k ++ RR)) w) := by
  obtain ⟨L0, hL0⟩ : ∃ q, hdrPc kb turn deep a b :: (kin base 64 58 7 b k ++ RR) = q := ⟨_, rfl⟩
  have HEND := Lib.hid (show ∀ (W : World) (A : Hv) (k2 : Kn), Star base (hdrPc kb turn deep a A :: (kin base 64 58 7 A k2 ++ RR)) W → Goes L0 (hdrPc kb turn deep a A :: (kin base 64 58 7 A k2 ++ RR)) w W → k2.Good A.s → A.s = b.s → MarkSOut base kb turn deep a b RR L0 w (.returned (.tuple #[])) W from fun W A k2 h1 h2 h3 h4 => ⟨rfl, A, k2, h1, h2, h3, h4⟩)
  have HK0 := Lib.hid (show MarkSOut base kb turn deep a b RR L0 w (.returned (.tuple #[])) w from ⟨rfl, b, k, H, hL0 ▸ Goes.refl _ w, gk, rfl⟩)
  have hg0 : Goes L0 (hdrPc kb turn deep a b :: (kin base 64 58 7 b k ++ RR)) w w := hL0 ▸ Goes.refl _ w
  rw [hL0]
  have HL0 := Lib.hid hL0
  obtain ⟨ps, es, fs0, St, rs⟩ := k
  simp only at fs gk
  subst fs
  rw [kin_eq] at H hg0
  obtain ⟨jo, jt, jw, jn, jf, jm, jd, jr, sn⟩ := b
  obtain ⟨m, hml⟩ : ∃ q, es.length = q := ⟨_, rfl⟩
  have hfew := gk.few
  simp only [List.length_nil, hml, List.append_nil] at hfew H hg0
  have hsn : sn ≤ 1000 := gk.seen
  have hm1 : m ≤ 1000 := by omega
  have HML := Lib.hid hml
  have HB := Lib.hid bs
  have HGK := Lib.hid gk
  obtain ⟨i0, hi0, hz0, hz1, hz2⟩ := info_parts info_slotsT
  obtain ⟨i1, hi1, hy0, hy1, hy2⟩ := info_parts info_Slot
  obtain ⟨i2, hi2, hx0, hx1, hx2⟩ := info_parts info_int
  have hh : RowV w kb 103 (hdrF turn deep a ⟨jo, jt, jw, jn, jf, jm, jd, jr, sn⟩) 41 := H.get 0 rfl
  have rw0 : w.ownsRow base 58 1 jw m (es.map Ent.v) := H.get 3 rfl
  have rn0 : w.ownsRow base 58 1 jn m (es.map Ent.note) := H.get 4 rfl
  have rm0 : w.ownsRow base 3 1 jm m (mks es) := H.get 5 rfl
  have rd0 : w.ownsRow base 3 1 jd m (dus es) := H.get 6 rfl
  by_cases hm0 : m = 0
  · subst hm0
    have hw0 : jw = .slice none 0 0 ∨ ∃ g c, jw = .slice (some ⟨g, 0, none⟩) 0 c := by
      rcases rw0.2 with ⟨h1, _⟩ | ⟨g, c, _, h1, _⟩
      · exact Or.inl h1
      · exact Or.inr ⟨g, c, h1⟩
    obtain ⟨wd, wc', rfl⟩ := own_slice_any rw0
    obtain ⟨nd, nc', rfl⟩ := own_slice_any rn0
    obtain ⟨md, mc', rfl⟩ := own_slice_any rm0
    obtain ⟨dd, dc', rfl⟩ := own_slice_any rd0
    have c6 : w.cell? ⟨kb, 33, none⟩ = some (.slice wd 0 wc') := hh.cell (by omega)
    have c7 : w.cell? ⟨kb, 34, none⟩ = some (.slice nd 0 nc') := hh.cell (by omega)
    have c9 : w.cell? ⟨kb, 36, none⟩ = some (.slice md 0 mc') := hh.cell (by omega)
    have c10 : w.cell? ⟨kb, 37, none⟩ = some (.slice dd 0 dc') := hh.cell (by omega)
    clear H hg0 HGK HEND rw0 rn0 rm0 rd0 hw0 hh hml hfew gk bs hL0
    go_enter Tryz.func135, Tryz.ntmps135
    go_wp2_with fail
    refine bodyPost_ret (results_none rfl _ _ _) rfl ?_
    exact HK0.out
  · have hmp : 0 < m := by omega
    obtain ⟨gw, cw, rfl, hcw⟩ := own_at rw0 hmp
    obtain ⟨gn, cn, rfl, hcn⟩ := own_at rn0 hmp
    obtain ⟨gm, cm, rfl, hcm⟩ := own_at rm0 hmp
    obtain ⟨gd, cd, rfl, hcd⟩ := own_at rd0 hmp
    obtain ⟨w0, hw0⟩ : ∃ q, Value.slice (some ⟨gw, 0, none⟩) m cw = q := ⟨_, rfl⟩
    obtain ⟨n0, hn0⟩ : ∃ q, Value.slice (some ⟨gn, 0, none⟩) m cn = q := ⟨_, rfl⟩
    obtain ⟨m0, hm0'⟩ : ∃ q, Value.slice (some ⟨gm, 0, none⟩) m cm = q := ⟨_, rfl⟩
    obtain ⟨d0, hd0⟩ : ∃ q, Value.slice (some ⟨gd, 0, none⟩) m cd = q := ⟨_, rfl⟩
    have c6 : w.cell? ⟨kb, 33, none⟩ = some (.slice (some ⟨gw, 0, none⟩) m cw) := hh.cell (by omega)
    have c7 : w.cell? ⟨kb, 34, none⟩ = some (.slice (some ⟨gn, 0, none⟩) m cn) := hh.cell (by omega)
    have c9 : w.cell? ⟨kb, 36, none⟩ = some (.slice (some ⟨gm, 0, none⟩) m cm) := hh.cell (by omega)
    have c10 : w.cell? ⟨kb, 37, none⟩ = some (.slice (some ⟨gd, 0, none⟩) m cd) := hh.cell (by omega)
    have f6 : w.frozen? ⟨kb, 33, none⟩ = false := hh.free _
    have f7 : w.frozen? ⟨kb, 34, none⟩ = false := hh.free _
    have f9 : w.frozen? ⟨kb, 36, none⟩ = false := hh.free _
    have f10 : w.frozen? ⟨kb, 37, none⟩ = false := hh.free _
    rw [hw0, hn0, hm0', hd0] at H hg0
    have t1 := H.lay_by 3 rfl (e := 58)
    have t2 := t1.1.lay_by 5 rfl (e := 58)
    have t3 := t2.1.lay_by 7 rfl (e := 3)
    have t4 := t3.1.lay_by 9 rfl (e := 3)
    have t5 := t4.1.hdr 4 rfl (Only.setCell w (a := ⟨kb, 33, none⟩) (by simp) (.slice none 0 0)) (hdrS_w (t4.1.get 4 rfl) (.slice none 0 0)) bs
    have t6 := t5.1.hdr 4 rfl (Only.setCell _ (a := ⟨kb, 34, none⟩) (by simp) (.slice none 0 0)) (hdrS_n (t5.1.get 4 rfl) (.slice none 0 0)) (Nat.le_trans bs t5.2.only.size)
    have b6 := Nat.le_trans (Nat.le_trans bs t5.2.only.size) t6.2.only.size
    have t7 := t6.1.hdr 4 rfl (Only.setCell _ (a := ⟨kb, 36, none⟩) (by simp) (.slice none 0 0)) (hdrS_m (t6.1.get 4 rfl) (.slice none 0 0)) b6
    have t8 := t7.1.hdr 4 rfl (Only.setCell _ (a := ⟨kb, 37, none⟩) (by simp) (.slice none 0 0)) (hdrS_d (t7.1.get 4 rfl) (.slice none 0 0)) (Nat.le_trans b6 t7.2.only.size)
    have HS0 : Hid (Star base (markL base 64 58 7 (hdrPc kb turn deep a ⟨jo, jt, .slice none 0 0, .slice none 0 0, jf, .slice none 0 0, .slice none 0 0, jr, sn⟩) es d0 m0 n0 w0 ⟨jo, jt, .slice none 0 0, .slice none 0 0, jf, .slice none 0 0, .slice none 0 0, jr, sn⟩ [] [] ps es St rs RR) _ ∧ Goes L0 (markL base 64 58 7 (hdrPc kb turn deep a ⟨jo, jt, .slice none 0 0, .slice none 0 0, jf, .slice none 0 0, .slice none 0 0, jr, sn⟩) es d0 m0 n0 w0 ⟨jo, jt, .slice none 0 0, .slice none 0 0, jf, .slice none 0 0, .slice none 0 0, jr, sn⟩ [] [] ps es St rs RR) w _) := Lib.hid (And.intro (t8.1.congr (by simp only [markL, HML.out]; rfl)) (Goes.to ((((((((hg0.trans t1.2).trans t2.2).trans t3.2).trans t4.2).trans t5.2).trans t6.2).trans t7.2).trans t8.2) (by simp only [markL, HML.out]; rfl)))
    clear t1 t2 t3 t4 t5 t6 t7 t8 b6 H hg0 rw0 rn0 rm0 rd0 hh HK0 hm0 bs hL0 gk hml
    have HW0 := Lib.hid hw0
    have HN0 := Lib.hid hn0
    have HM0 := Lib.hid hm0'
    have HD0 := Lib.hid hd0
    clear hcw hcn hcm hcd hw0 hn0 hm0' hd0
    go_enter Tryz.func135, Tryz.ntmps135
    go_upto_region 6 with fail
    clear c6 c7 c9 c10 f6 f7 f9 f10
    refine wp_star HS0.out ?_
    clear HS0
    intro wx sx gx
    have HSX := Lib.hid (And.intro sx gx)
    clear sx gx
    go_wp2_with fail
    go_loopg [6, 7, 8, 9] m (fun gk s6 s7 s8 s9 W => ∃ (i : Nat) (A : Hv) (es2 fs2 : List Ent) (ps : List (Value × Value)) (St : List Nat) (rs : List Rdr), i + gk = m ∧ s6 = .int .i64 i ∧ Kn.Good ⟨ps, es2 ++ es.drop i, fs2, St, rs⟩ A.s ∧ A.s = sn ∧ Star base (markL base 64 58 7 (hdrPc kb turn deep a A) es d0 m0 n0 w0 A es2 fs2 ps (es.drop i) St rs RR) W ∧ Goes L0 (markL base 64 58 7 (hdrPc kb turn deep a A) es d0 m0 n0 w0 A es2 fs2 ps (es.drop i) St rs RR) w W)
    case atStart => exact ⟨0, ⟨jo, jt, .slice none 0 0, .slice none 0 0, jf, .slice none 0 0, .slice none 0 0, jr, sn⟩, [], [], ps, St, rs, by omega, rfl, HGK.out, rfl, HSX.out⟩
    case round =>
      clear HSX HGK HL0 St rs ps hfew
      obtain ⟨i, A, es2, fs2, ps, St, rs, hi, rfl, hgood, hsn', hS, hG⟩ := hrel
      obtain ⟨jo, jt, jw, jn, jf, jm, jd, jr, sn2⟩ := A
      simp only at hsn'
      subst hsn'
      by_cases hlt : i < m
      · --ROUND
        obtain ⟨x, rest, hdr⟩ : ∃ x rest, es.drop i = x :: rest := by
          have := HML.out
          exact ⟨_, _, List.drop_eq_getElem_cons (by omega)⟩
        have hx : es[i]? = some x := by
          have h1 : (es.drop i)[0]? = some x := by rw [hdr]; rfl
          rwa [List.getElem?_drop] at h1
        have hrest : es.drop (i + 1) = rest := by
          have h1 : (es.drop i).drop 1 = rest := by rw [hdr]; rfl
          rwa [List.drop_drop] at h1
        rw [hdr] at hgood hS hG
        have HREST := Lib.hid hrest
        have HI := Lib.hid hi
        have HGD := Lib.hid hgood
        have hfew := hgood.few
        simp only [List.length_append, List.length_cons] at hfew
        have hxm := hgood.mark x (by simp)
        have hxd := hgood.due x (by simp)
        have hwait := hgood.wait x (by simp)
        obtain ⟨xv, xn, XL, q, xmark, xdue⟩ := x
        simp only at hxm hxd hwait
        obtain ⟨hxm1, hxm2, hxn⟩ := hxm
        obtain ⟨hxd1, hxd2⟩ := hxd
        have s0 := hS
        have g0 := hG
        simp only [markL, HML.out] at s0 g0
        obtain ⟨c, hc⟩ : ∃ q, es2.length = q := ⟨_, rfl⟩
        obtain ⟨fc, hfc⟩ : ∃ q, fs2.length = q := ⟨_, rfl⟩
        obtain ⟨pc, hpc⟩ : ∃ q, ps.length = q := ⟨_, rfl⟩
        rw [hc, hfc, hpc] at hfew s0 g0
        have HC := Lib.hid hc
        have HFC := Lib.hid hfc
        have HPC := Lib.hid hpc
        have hsn2 : sn2 ≤ 1000 := hgood.seen
        have hcb : c ≤ 1000 ∧ fc ≤ 2000 ∧ pc ≤ 2000 := by omega
        obtain ⟨hcb, hfb, hpb⟩ := hcb
        have hmem : MemOk base 64 7 (es2 ++ fs2 ++ ⟨xv, xn, XL, q, xmark, xdue⟩ :: rest) St rs wr := s0.get 13 rfl
        have hxo : wr.ownsRow base 64 7 xv xn (ints XL) := hmem.own ⟨xv, xn, XL, q, xmark, xdue⟩ (by simp)
        have hqr := (hmem.rd _ hwait).open
        obtain ⟨xd, xc, rfl⟩ := own_slice_any hxo
        obtain ⟨_, _, qd, qc, rfl, _⟩ := hqr
        obtain ⟨g1, c1, e1, kw⟩ := own_at (show wr.ownsRow base 58 1 w0 m (es.map Ent.v) from s0.get 3 rfl) hmp
        rw [← HW0.out] at e1; cases e1
        obtain ⟨g1, c1, e1, kn⟩ := own_at (show wr.ownsRow base 58 1 n0 m (es.map Ent.note) from s0.get 2 rfl) hmp
        rw [← HN0.out] at e1; cases e1
        obtain ⟨g1, c1, e1, km⟩ := own_at (show wr.ownsRow base 3 1 m0 m (mks es) from s0.get 1 rfl) hmp
        rw [← HM0.out] at e1; cases e1
        obtain ⟨g1, c1, e1, kd⟩ := own_at (show wr.ownsRow base 3 1 d0 m (dus es) from s0.get 0 rfl) hmp
        rw [← HD0.out] at e1; cases e1
        have lw := kw i (.slice xd xn xc) (by simp [hx])
        have lm := km i (.int .i64 xmark) (by simp [mks, hx])
        have ld := kd i (.int .i64 xdue) (by simp [dus, hx])
        have hb0 : base ≤ wr.heap.size := Nat.le_trans HB.out g0.only.size
        have lt2 : wr.cell? ⟨kb, 2, none⟩ = some (.int .i64 turn) := (hdr_now (show RowV wr kb 103 (hdrF turn deep a ⟨jo, jt, jw, jn, jf, jm, jd, jr, sn2⟩) 41 from s0.get 4 rfl)).2.2.1
        have HX := Lib.hid hx
        have HS0 := Lib.hid (And.intro s0 g0)
        have hii : (i : Int) < m := by omega
        have hi0' : (0 : Int) ≤ i := by omega
        clear hS hG hgood hwait hmem hxo kw kn km kd hx hdr hrest hc hfc hpc s0 g0 hi
        by_cases hgt : turn < xdue
        · go_upto_region 11 with fail
          go_quiet (fail)
          go_upto_region 12 with fail
          refine wp_star (And.intro (HS0.out.1.plain (Only.drewN [] wr nq)) (HS0.out.2.trans (Goes.plain (Only.drewN [] wr nq)))) ?_
          intro w2 s2 g2
          -- w
          have r2 : w2.ownsRow base 58 1 jw (c) (es2.map Ent.v) := s2.get 7 rfl
          obtain ⟨wx2, wy2, rfl⟩ := own_slice_any r2
          have hh2 : RowV w2 kb 103 (hdrF turn deep a ⟨jo, jt, .slice wx2 (c) wy2, jn, jf, jm, jd, jr, sn2⟩) 41 := s2.get 4 rfl
          have hb2 : base ≤ w2.heap.size := Nat.le_trans HB.out g2.only.size
          have ca2 : w2.cell? ⟨kb, 33, none⟩ = some (.slice wx2 (c) wy2) := hh2.cell (by omega)
          have R2 := Lib.hid (ownsRow_only r2 (Only.alloc [] w2 (.cells #[.slice xd xn xc] 58)) (by simp))
          have HS2 := Lib.hid (And.intro s2 g2)
          clear s2 g2 r2 hh2
          go_upto_region 13 with (at_builtin; refine wpList_append3 (by rfl) (.tmp 68) (.tmp 70) 32 (by rfl) base 58 _ _ 1 24 Tryz.underlying32 hi0 hz0 hz1 hz2 rfl (by decide) _ (c) _ rfl R2.out (some ⟨w2.heap.size, 0, none⟩) 1 1 [.slice xd xn xc] rfl rfl (fun e => by cases e) (fun ad e => by cases e; exact cell_one_new _ _ _) (fun u hu => by simp at hu; subst hu; rfl) (by unfold maxLen; omega) (by omega) (by simp; omega) ?_)
          intro v3 w3 hown3 h3
          obtain ⟨o3, at3⟩ := app3 h3
          have s3 := HS2.out.1.row 7 rfl (Only.alloc [] w2 (.cells #[.slice xd xn xc] 58)) hown3 o3 at3 hb2
          have hh3 : RowV w3 kb 103 (hdrF turn deep a ⟨jo, jt, .slice wx2 (c) wy2, jn, jf, jm, jd, jr, sn2⟩) 41 := s3.1.get 4 rfl
          have cb2 : w3.cell? ⟨kb, 33, none⟩ = some (.slice wx2 (c) wy2) := hh3.cell (by omega)
          have fb2 : w3.frozen? ⟨kb, 33, none⟩ = false := hh3.free _
          obtain ⟨wx4, wy4, rfl⟩ := own_slice_any hown3
          have s4 := s3.1.hdr 4 rfl (Only.setCell w3 (a := ⟨kb, 33, none⟩) (by simp) (.slice wx4 (c + 1) wy4)) (hdrS_w hh3 (.slice wx4 (c + 1) wy4)) (Nat.le_trans hb2 s3.2.only.size)
          have HS4 : Hid (Star base (rowPc base 3 1 d0 m (dus es) :: rowPc base 3 1 m0 m (mks es) :: rowPc base 58 1 n0 m (es.map Ent.note) :: rowPc base 58 1 w0 m (es.map Ent.v) :: hdrPc kb turn deep a ⟨jo, jt, .slice wx4 (c + 1) wy4, jn, jf, jm, jd, jr, sn2⟩ :: (kinY base 58 ⟨jo, jt, .slice wx4 (c + 1) wy4, jn, jf, jm, jd, jr, sn2⟩ (pc) (ps.map Prod.fst) (pc) (ps.map Prod.snd) (c + 1) (es2.map Ent.v ++ [.slice xd xn xc]) (c) (es2.map Ent.note) (c) (mks es2) (c) (dus es2) (fc) (fs2.map Ent.v) (fc) (mks fs2) (memPc base 64 7 (es2 ++ fs2 ++ (⟨.slice xd xn xc, xn, XL, .slice qd xn qc, xmark, xdue⟩ : Ent) :: rest) St rs) ++ RR)) _ ∧ Goes L0 _ w _) := Lib.hid (And.intro s4.1 ((HS2.out.2.trans s3.2).trans s4.2))
          clear hown3 h3 o3 at3 s3 hh3 s4 hb2 ca2
          go_upto_region 13 with fail
          clear cb2 fb2 R2 HS2
          refine wp_star HS4.out ?_
          clear HS4
          intro w4 s4 g4
          -- n (drawn)
          have r4 : w4.ownsRow base 58 1 jn (c) (es2.map Ent.note) := s4.get 8 rfl
          obtain ⟨nx4, ny4, rfl⟩ := own_slice_any r4
          have hh4 : RowV w4 kb 103 (hdrF turn deep a ⟨jo, jt, .slice wx4 (c + 1) wy4, .slice nx4 (c) ny4, jf, jm, jd, jr, sn2⟩) 41 := s4.get 4 rfl
          have hb4 : base ≤ w4.heap.size := Nat.le_trans HB.out g4.only.size
          have ca4 : w4.cell? ⟨kb, 34, none⟩ = some (.slice nx4 (c) ny4) := hh4.cell (by omega)
          have cx4 : w4.cell? ⟨gn, i, none⟩ = some (.slice qd xn qc) := own_cell (s4.get 2 rfl : w4.ownsRow base 58 1 n0 m (es.map Ent.note)) HN0.out (by simp [HX.out])
          have HR4 := Lib.hid (fun W (o : Only [] w4 W) => ownsRow_only r4 o (by simp))
          have HS4 := Lib.hid (And.intro s4 g4)
          have hkl := hh4.lt
          clear s4 g4 r4 hh4
          go_upto_region 13 with fail
          go_cut [] (fun wc' => ∃ nx6 ny6, Star base (rowPc base 3 1 d0 m (dus es) :: rowPc base 3 1 m0 m (mks es) :: rowPc base 58 1 n0 m (es.map Ent.note) :: rowPc base 58 1 w0 m (es.map Ent.v) :: hdrPc kb turn deep a ⟨jo, jt, .slice wx4 (c + 1) wy4, .slice nx6 (c + 1) ny6, jf, jm, jd, jr, sn2⟩ :: (kinY base 58 ⟨jo, jt, .slice wx4 (c + 1) wy4, .slice nx6 (c + 1) ny6, jf, jm, jd, jr, sn2⟩ (pc) (ps.map Prod.fst) (pc) (ps.map Prod.snd) (c + 1) (es2.map Ent.v ++ [.slice xd xn xc]) (c + 1) (es2.map Ent.note ++ [.slice qd xn qc]) (c) (mks es2) (c) (dus es2) (fc) (fs2.map Ent.v) (fc) (mks fs2) (memPc base 64 7 (es2 ++ fs2 ++ (⟨.slice xd xn xc, xn, XL, .slice qd xn qc, xmark, xdue⟩ : Ent) :: rest) St rs) ++ RR)) wc' ∧ Goes L0 (rowPc base 3 1 d0 m (dus es) :: rowPc base 3 1 m0 m (mks es) :: rowPc base 58 1 n0 m (es.map Ent.note) :: rowPc base 58 1 w0 m (es.map Ent.v) :: hdrPc kb turn deep a ⟨jo, jt, .slice wx4 (c + 1) wy4, .slice nx6 (c + 1) ny6, jf, jm, jd, jr, sn2⟩ :: (kinY base 58 ⟨jo, jt, .slice wx4 (c + 1) wy4, .slice nx6 (c + 1) ny6, jf, jm, jd, jr, sn2⟩ (pc) (ps.map Prod.fst) (pc) (ps.map Prod.snd) (c + 1) (es2.map Ent.v ++ [.slice xd xn xc]) (c + 1) (es2.map Ent.note ++ [.slice qd xn qc]) (c) (mks es2) (c) (dus es2) (fc) (fs2.map Ent.v) (fc) (mks fs2) (memPc base 64 7 (es2 ++ fs2 ++ (⟨.slice xd xn xc, xn, XL, .slice qd xn qc, xmark, xdue⟩ : Ent) :: rest) St rs) ++ RR)) w wc')
          case first =>
            go_region_law (refine step_append3 (by rfl) (.tmp 78) (.tmp 83) 32 (by rfl) base 58 _ _ 1 24 Tryz.underlying32 hi0 hz0 hz1 hz2 rfl (by decide) (.slice nx4 (c) ny4) (c) (es2.map Ent.note) (by rfl) (HR4.out _ ((Only.drew _ _).trans (Only.alloc _ _ _))) (some ⟨w4.heap.size, 0, none⟩) 1 1 [.slice qd xn qc] (by rfl) rfl (fun e => by cases e) (fun ad e => by cases e; exact cell_one_new _ _ _) (fun u hu => by simp at hu; subst hu; rfl) (by unfold maxLen; omega) (by omega) (by simp; omega) ?_; intro v5 w5 hown5 h5; obtain ⟨nx6, ny6, rfl⟩ := own_slice_any hown5; have s5 := HS4.out.1.row 8 rfl ((Only.drew [] w4).trans (Only.alloc [] w4.drew _)) hown5 (app3 h5).1 (app3 h5).2 hb4; have hh5 : RowV w5 kb 103 (hdrF turn deep a ⟨jo, jt, .slice wx4 (c + 1) wy4, .slice nx4 (c) ny4, jf, jm, jd, jr, sn2⟩) 41 := s5.1.get 4 rfl; have cb4 : w5.cell? ⟨kb, 34, none⟩ = some (.slice nx4 (c) ny4) := hh5.cell (by omega); have fb4 : w5.frozen? ⟨kb, 34, none⟩ = false := hh5.free _; have s6 := s5.1.hdr 4 rfl (Only.setCell w5 (a := ⟨kb, 34, none⟩) (by simp) (.slice nx6 (c + 1) ny6)) (hdrS_n hh5 (.slice nx6 (c + 1) ny6)) (Nat.le_trans hb4 s5.2.only.size); have HS6 := Lib.hid (And.intro s6.1 ((HS4.out.2.trans s5.2).trans s6.2)); clear hown5 h5 s5 hh5 s6)
            all_goals (go_wp2_with fail; go_meet)
            all_goals exact ⟨_, _, HS6.out⟩
          case rest =>
            obtain ⟨nx6, ny6, s6, g6⟩ := hcut
            obtain ⟨w6, hwk⟩ : ∃ x, x = wc := ⟨_, rfl⟩
            subst hwk
            clear HR4 HS4 hkl hb4 ca4 cx4
            -- m
            have r6 : w6.ownsRow base 3 1 jm (c) (mks es2) := s6.get 9 rfl
            obtain ⟨mx6, my6, rfl⟩ := own_slice_any r6
            have hh6 : RowV w6 kb 103 (hdrF turn deep a ⟨jo, jt, .slice wx4 (c + 1) wy4, .slice nx6 (c + 1) ny6, jf, .slice mx6 (c) my6, jd, jr, sn2⟩) 41 := s6.get 4 rfl
            have hb6 : base ≤ w6.heap.size := Nat.le_trans HB.out g6.only.size
            have ca6 : w6.cell? ⟨kb, 36, none⟩ = some (.slice mx6 (c) my6) := hh6.cell (by omega)
            have R6 := Lib.hid (ownsRow_only r6 (Only.alloc [] w6 (.cells #[.int .i64 xmark] 3)) (by simp))
            have HS6 := Lib.hid (And.intro s6 g6)
            clear s6 g6 r6 hh6
            go_upto_region 15 with (at_builtin; refine wpList_append3 (by rfl) (.tmp 91) (.tmp 93) 29 (by rfl) base 3 _ _ 1 8 Tryz.underlying29 hi2 hx0 hx1 hx2 rfl (by decide) _ (c) _ rfl R6.out (some ⟨w6.heap.size, 0, none⟩) 1 1 [.int .i64 xmark] rfl rfl (fun e => by cases e) (fun ad e => by cases e; exact cell_one_new _ _ _) (fun u hu => by simp at hu; subst hu; rfl) (by unfold maxLen; omega) (by omega) (by simp; omega) ?_)
            intro v7 w7 hown7 h7
            obtain ⟨o7, at7⟩ := app3 h7
            have s7 := HS6.out.1.row 9 rfl (Only.alloc [] w6 (.cells #[.int .i64 xmark] 3)) hown7 o7 at7 hb6
            have hh7 : RowV w7 kb 103 (hdrF turn deep a ⟨jo, jt, .slice wx4 (c + 1) wy4, .slice nx6 (c + 1) ny6, jf, .slice mx6 (c) my6, jd, jr, sn2⟩) 41 := s7.1.get 4 rfl
            have cb6 : w7.cell? ⟨kb, 36, none⟩ = some (.slice mx6 (c) my6) := hh7.cell (by omega)
            have fb6 : w7.frozen? ⟨kb, 36, none⟩ = false := hh7.free _
            obtain ⟨mx8, my8, rfl⟩ := own_slice_any hown7
            have s8 := s7.1.hdr 4 rfl (Only.setCell w7 (a := ⟨kb, 36, none⟩) (by simp) (.slice mx8 (c + 1) my8)) (hdrS_m hh7 (.slice mx8 (c + 1) my8)) (Nat.le_trans hb6 s7.2.only.size)
            have HS8 : Hid (Star base (rowPc base 3 1 d0 m (dus es) :: rowPc base 3 1 m0 m (mks es) :: rowPc base 58 1 n0 m (es.map Ent.note) :: rowPc base 58 1 w0 m (es.map Ent.v) :: hdrPc kb turn deep a ⟨jo, jt, .slice wx4 (c + 1) wy4, .slice nx6 (c + 1) ny6, jf, .slice mx8 (c + 1) my8, jd, jr, sn2⟩ :: (kinY base 58 ⟨jo, jt, .slice wx4 (c + 1) wy4, .slice nx6 (c + 1) ny6, jf, .slice mx8 (c + 1) my8, jd, jr, sn2⟩ (pc) (ps.map Prod.fst) (pc) (ps.map Prod.snd) (c + 1) (es2.map Ent.v ++ [.slice xd xn xc]) (c + 1) (es2.map Ent.note ++ [.slice qd xn qc]) (c + 1) (mks es2 ++ [.int .i64 xmark]) (c) (dus es2) (fc) (fs2.map Ent.v) (fc) (mks fs2) (memPc base 64 7 (es2 ++ fs2 ++ (⟨.slice xd xn xc, xn, XL, .slice qd xn qc, xmark, xdue⟩ : Ent) :: rest) St rs) ++ RR)) _ ∧ Goes L0 _ w _) := Lib.hid (And.intro s8.1 ((HS6.out.2.trans s7.2).trans s8.2))
            clear hown7 h7 o7 at7 s7 hh7 s8 hb6 ca6
            go_upto_region 15 with fail
            clear cb6 fb6 R6 HS6
            refine wp_star HS8.out ?_
            clear HS8
            intro w8 s8 g8
            -- d (drawn)
            have r8 : w8.ownsRow base 3 1 jd (c) (dus es2) := s8.get 10 rfl
            obtain ⟨dx8, dy8, rfl⟩ := own_slice_any r8
            have hh8 : RowV w8 kb 103 (hdrF turn deep a ⟨jo, jt, .slice wx4 (c + 1) wy4, .slice nx6 (c + 1) ny6, jf, .slice mx8 (c + 1) my8, .slice dx8 (c) dy8, jr, sn2⟩) 41 := s8.get 4 rfl
            have hb8 : base ≤ w8.heap.size := Nat.le_trans HB.out g8.only.size
            have ca8 : w8.cell? ⟨kb, 37, none⟩ = some (.slice dx8 (c) dy8) := hh8.cell (by omega)
            have cx8 : w8.cell? ⟨gd, i, none⟩ = some (.int .i64 xdue) := own_cell (s8.get 0 rfl : w8.ownsRow base 3 1 d0 m (dus es)) HD0.out (by simp [dus, HX.out])
            have HR8 := Lib.hid (fun W (o : Only [] w8 W) => ownsRow_only r8 o (by simp))
            have HS8 := Lib.hid (And.intro s8 g8)
            have hkl := hh8.lt
            clear s8 g8 r8 hh8
            go_upto_region 15 with fail
            go_cut [] (fun wc' => ∃ dx10 dy10, Star base (rowPc base 3 1 d0 m (dus es) :: rowPc base 3 1 m0 m (mks es) :: rowPc base 58 1 n0 m (es.map Ent.note) :: rowPc base 58 1 w0 m (es.map Ent.v) :: hdrPc kb turn deep a ⟨jo, jt, .slice wx4 (c + 1) wy4, .slice nx6 (c + 1) ny6, jf, .slice mx8 (c + 1) my8, .slice dx10 (c + 1) dy10, jr, sn2⟩ :: (kinY base 58 ⟨jo, jt, .slice wx4 (c + 1) wy4, .slice nx6 (c + 1) ny6, jf, .slice mx8 (c + 1) my8, .slice dx10 (c + 1) dy10, jr, sn2⟩ (pc) (ps.map Prod.fst) (pc) (ps.map Prod.snd) (c + 1) (es2.map Ent.v ++ [.slice xd xn xc]) (c + 1) (es2.map Ent.note ++ [.slice qd xn qc]) (c + 1) (mks es2 ++ [.int .i64 xmark]) (c + 1) (dus es2 ++ [.int .i64 xdue]) (fc) (fs2.map Ent.v) (fc) (mks fs2) (memPc base 64 7 (es2 ++ fs2 ++ (⟨.slice xd xn xc, xn, XL, .slice qd xn qc, xmark, xdue⟩ : Ent) :: rest) St rs) ++ RR)) wc' ∧ Goes L0 (rowPc base 3 1 d0 m (dus es) :: rowPc base 3 1 m0 m (mks es) :: rowPc base 58 1 n0 m (es.map Ent.note) :: rowPc base 58 1 w0 m (es.map Ent.v) :: hdrPc kb turn deep a ⟨jo, jt, .slice wx4 (c + 1) wy4, .slice nx6 (c + 1) ny6, jf, .slice mx8 (c + 1) my8, .slice dx10 (c + 1) dy10, jr, sn2⟩ :: (kinY base 58 ⟨jo, jt, .slice wx4 (c + 1) wy4, .slice nx6 (c + 1) ny6, jf, .slice mx8 (c + 1) my8, .slice dx10 (c + 1) dy10, jr, sn2⟩ (pc) (ps.map Prod.fst) (pc) (ps.map Prod.snd) (c + 1) (es2.map Ent.v ++ [.slice xd xn xc]) (c + 1) (es2.map Ent.note ++ [.slice qd xn qc]) (c + 1) (mks es2 ++ [.int .i64 xmark]) (c + 1) (dus es2 ++ [.int .i64 xdue]) (fc) (fs2.map Ent.v) (fc) (mks fs2) (memPc base 64 7 (es2 ++ fs2 ++ (⟨.slice xd xn xc, xn, XL, .slice qd xn qc, xmark, xdue⟩ : Ent) :: rest) St rs) ++ RR)) w wc')
            case first =>
              go_region_law (refine step_append3 (by rfl) (.tmp 101) (.tmp 106) 29 (by rfl) base 3 _ _ 1 8 Tryz.underlying29 hi2 hx0 hx1 hx2 rfl (by decide) (.slice dx8 (c) dy8) (c) (dus es2) (by rfl) (HR8.out _ ((Only.drew _ _).trans (Only.alloc _ _ _))) (some ⟨w8.heap.size, 0, none⟩) 1 1 [.int .i64 xdue] (by rfl) rfl (fun e => by cases e) (fun ad e => by cases e; exact cell_one_new _ _ _) (fun u hu => by simp at hu; subst hu; rfl) (by unfold maxLen; omega) (by omega) (by simp; omega) ?_; intro v9 w9 hown9 h9; obtain ⟨dx10, dy10, rfl⟩ := own_slice_any hown9; have s9 := HS8.out.1.row 10 rfl ((Only.drew [] w8).trans (Only.alloc [] w8.drew _)) hown9 (app3 h9).1 (app3 h9).2 hb8; have hh9 : RowV w9 kb 103 (hdrF turn deep a ⟨jo, jt, .slice wx4 (c + 1) wy4, .slice nx6 (c + 1) ny6, jf, .slice mx8 (c + 1) my8, .slice dx8 (c) dy8, jr, sn2⟩) 41 := s9.1.get 4 rfl; have cb8 : w9.cell? ⟨kb, 37, none⟩ = some (.slice dx8 (c) dy8) := hh9.cell (by omega); have fb8 : w9.frozen? ⟨kb, 37, none⟩ = false := hh9.free _; have s10 := s9.1.hdr 4 rfl (Only.setCell w9 (a := ⟨kb, 37, none⟩) (by simp) (.slice dx10 (c + 1) dy10)) (hdrS_d hh9 (.slice dx10 (c + 1) dy10)) (Nat.le_trans hb8 s9.2.only.size); have HS10 := Lib.hid (And.intro s10.1 ((HS8.out.2.trans s9.2).trans s10.2)); clear hown9 h9 s9 hh9 s10)
              all_goals (go_wp2_with fail; go_meet)
              all_goals exact ⟨_, _, HS10.out⟩
            case rest =>
              obtain ⟨dx10, dy10, s10, g10⟩ := hcut
              obtain ⟨w10, hwk⟩ : ∃ x, x = wc := ⟨_, rfl⟩
              subst hwk
              clear HR8 HS8 hkl hb8 ca8 cx8
              have hbk : base ≤ w10.heap.size := Nat.le_trans HB.out g10.only.size
              have sr := s10.reorder 13 rfl (ys := (es2 ++ [(⟨.slice xd xn xc, xn, XL, .slice qd xn qc, xmark, xdue⟩ : Ent)]) ++ fs2 ++ rest) (by simp only [List.map_append, List.map_cons, List.map_nil, List.append_assoc, List.cons_append, List.nil_append]; exact List.Perm.append_left _ List.perm_middle) hbk
              have hke := markL_keep base 64 58 7 (hdrPc kb turn deep a ⟨jo, jt, .slice wx4 (c + 1) wy4, .slice nx6 (c + 1) ny6, jf, .slice mx8 (c + 1) my8, .slice dx10 (c + 1) dy10, jr, sn2⟩) es d0 m0 n0 w0 ⟨jo, jt, .slice wx4 (c + 1) wy4, .slice nx6 (c + 1) ny6, jf, .slice mx8 (c + 1) my8, .slice dx10 (c + 1) dy10, jr, sn2⟩ es2 fs2 ps (⟨.slice xd xn xc, xn, XL, .slice qd xn qc, xmark, xdue⟩ : Ent) rest St rs RR
              rw [HML.out, HC.out, HFC.out, HPC.out] at hke
              have HF := Lib.hid (And.intro (sr.1.congr hke.symm) ((g10.trans sr.2).to hke.symm))
              rw [← HREST.out] at HF
              have hgd : Kn.Good ⟨ps, (es2 ++ [(⟨.slice xd xn xc, xn, XL, .slice qd xn qc, xmark, xdue⟩ : Ent)]) ++ es.drop (i + 1), fs2, St, rs⟩ sn2 := by rw [HREST.out, List.append_assoc]; exact HGD.out
              have HGD2 := Lib.hid hgd
              clear sr hke hgd s10 g10 hbk
              go_wp2_with fail
              go_roundg (m - (i + 1))
              case measure => have := HI.out; omega
              case rel => exact ⟨i + 1, ⟨jo, jt, .slice wx4 (c + 1) wy4, .slice nx6 (c + 1) ny6, jf, .slice mx8 (c + 1) my8, .slice dx10 (c + 1) dy10, jr, sn2⟩, es2 ++ [(⟨.slice xd xn xc, xn, XL, .slice qd xn qc, xmark, xdue⟩ : Ent)], fs2, ps, St, rs, by have := HI.out; omega, by go_num, HGD2.out, rfl, HF.out⟩
        · go_upto_region 11 with fail
          go_quiet (fail)
          go_upto_region 16 with fail
          refine wp_star (And.intro (HS0.out.1.plain (Only.drewN [] wr nq)) (HS0.out.2.trans (Goes.plain (Only.drewN [] wr nq)))) ?_
          intro w2 s2 g2
          -- bad
          have hh2 : RowV w2 kb 103 (hdrF turn deep a ⟨jo, jt, jw, jn, jf, jm, jd, jr, sn2⟩) 41 := s2.get 4 rfl
          obtain ⟨z0, z1, _, _⟩ := hdr_now hh2
          have zf : w2.frozen? ⟨kb, 1, none⟩ = false := hh2.free _
          have hmN : w2.cell? ⟨gn, i, none⟩ = some (.slice qd xn qc) := own_cell (s2.get 2 rfl : w2.ownsRow base 58 1 n0 m (es.map Ent.note)) HN0.out (by simp [HX.out])
          have hmm : MemOk base 64 7 (es2 ++ fs2 ++ (⟨.slice xd xn xc, xn, XL, .slice qd xn qc, xmark, xdue⟩ : Ent) :: rest) St rs w2 := s2.get 13 rfl
          have HSM := Lib.hid (bk_same_slots ((rdr_own (hmm.own (⟨.slice xd xn xc, xn, XL, .slice qd xn qc, xmark, xdue⟩ : Ent) (by simp)) (by omega)).more (St' := (Value.slice xd xn xc).ownBlock.toList ++ St) (fun b hb => List.mem_append.2 (Or.inl hb))) ((hmm.rd _ (HGD.out.wait (⟨.slice xd xn xc, xn, XL, .slice qd xn qc, xmark, xdue⟩ : Ent) (by simp))).more (St' := (Value.slice xd xn xc).ownBlock.toList ++ St) (fun b hb => List.mem_append.2 (Or.inr hb))))
          have HH2 := Lib.hid hh2
          have HS2 := Lib.hid (And.intro s2 g2)
          have hb2 : base ≤ w2.heap.size := Nat.le_trans HB.out g2.only.size
          clear s2 g2 hh2 hmm
          go_upto_region 17 with fail
          refine HSM.out.mono ?_
          rintro e w3 ⟨rfl, o3⟩
          have z13 := (hdr_now (HH2.out.only o3 (by simp))).2.1
          have zf3 := (HH2.out.only o3 (by simp)).free 1
          have s3 := (HS2.out.1.plain o3).hdr 4 rfl (Only.setCell w3 (a := ⟨kb, 1, none⟩) (by simp) (.bool false)) (hdr_bad (HH2.out.only o3 (by simp))) (Nat.le_trans hb2 o3.size)
          have HS3 := Lib.hid (And.intro s3.1 ((HS2.out.2.trans (Goes.plain o3)).trans s3.2))
          clear s3 o3
          go_upto_region 17 with fail
          clear z0 z1 zf hmN z13 zf3 HSM HH2 HS2 hb2
          refine wp_star HS3.out ?_
          clear HS3
          intro w4 s4 g4
          have hxo : w4.ownsRow base 64 7 (.slice xd xn xc) xn (ints XL) := (s4.get 13 rfl : MemOk base 64 7 (es2 ++ fs2 ++ (⟨.slice xd xn xc, xn, XL, .slice qd xn qc, xmark, xdue⟩ : Ent) :: rest) St rs w4).own (⟨.slice xd xn xc, xn, XL, .slice qd xn qc, xmark, xdue⟩ : Ent) (by simp)
          have HXO := Lib.hid hxo
          have HS4 := Lib.hid (And.intro s4 g4)
          clear hxo s4 g4
          go_upto_block 1 with fail
          go_wp2_with fail
          go_loopg [9] xn (fun gj s9 W => ∃ (j : Nat) (L2 : List Int), j + gj = xn ∧ s9 = .int .i64 j ∧ W.ownsRow base 64 7 (.slice xd xn xc) xn (ints L2) ∧ Only (Value.slice xd xn xc).ownBlock.toList w4 W)
          case atStart => exact ⟨0, XL, by omega, rfl, HXO.out, Only.refl _ _⟩
          case round =>
            obtain ⟨j, L2, hj, rfl, hrow, hO⟩ := hrel
            by_cases hjx : j < xn
            · --STEP
              have hlen : (ints L2).length = xn * 7 := hrow.1
              obtain ⟨g, c9, e9, _⟩ := own_at hrow (by omega)
              cases e9
              have hl7 : (ints L2).length = xn * 7 := hlen
              have fz0 := ownsRow_free hrow (j * 7 + 0)
              obtain ⟨u0, hu0⟩ : ∃ u, (ints L2)[j * 7 + 0]? = some u := ⟨_, List.getElem?_eq_getElem (by omega)⟩
              have cz0 := own_cell hrow rfl hu0
              clear hu0
              have fz1 := ownsRow_free hrow (j * 7 + 1)
              obtain ⟨u1, hu1⟩ : ∃ u, (ints L2)[j * 7 + 1]? = some u := ⟨_, List.getElem?_eq_getElem (by omega)⟩
              have cz1 := own_cell hrow rfl hu1
              clear hu1
              have fz2 := ownsRow_free hrow (j * 7 + 2)
              obtain ⟨u2, hu2⟩ : ∃ u, (ints L2)[j * 7 + 2]? = some u := ⟨_, List.getElem?_eq_getElem (by omega)⟩
              have cz2 := own_cell hrow rfl hu2
              clear hu2
              have fz3 := ownsRow_free hrow (j * 7 + 3)
              obtain ⟨u3, hu3⟩ : ∃ u, (ints L2)[j * 7 + 3]? = some u := ⟨_, List.getElem?_eq_getElem (by omega)⟩
              have cz3 := own_cell hrow rfl hu3
              clear hu3
              have fz4 := ownsRow_free hrow (j * 7 + 4)
              obtain ⟨u4, hu4⟩ : ∃ u, (ints L2)[j * 7 + 4]? = some u := ⟨_, List.getElem?_eq_getElem (by omega)⟩
              have cz4 := own_cell hrow rfl hu4
              clear hu4
              have fz5 := ownsRow_free hrow (j * 7 + 5)
              obtain ⟨u5, hu5⟩ : ∃ u, (ints L2)[j * 7 + 5]? = some u := ⟨_, List.getElem?_eq_getElem (by omega)⟩
              have cz5 := own_cell hrow rfl hu5
              clear hu5
              have fz6 := ownsRow_free hrow (j * 7 + 6)
              obtain ⟨u6, hu6⟩ : ∃ u, (ints L2)[j * 7 + 6]? = some u := ⟨_, List.getElem?_eq_getElem (by omega)⟩
              have cz6 := own_cell hrow rfl hu6
              clear hu6
              rw [Nat.add_zero] at fz0 cz0
              have hj3 : (0 : Int) ≤ 3 * (j : Int) := by omega
              have h0 := hrow
              have o0 : Only (Value.slice (some ⟨g, 0, none⟩) xn xc).ownBlock.toList w4 _ := hO
              have h1 := ownsRow_set (u := .int .i64 (xmark + 3 * (j : Int))) h0 (j := j * 7) (by simp [ints] at hl7 ⊢; omega)
              rw [ints_set] at h1
              have o1 := o0.trans (Only.setCell _ (a := ⟨g, j * 7, none⟩) (by simp [Value.ownBlock]) (.int .i64 (xmark + 3 * (j : Int))))
              have h2 := ownsRow_set (u := .int .i64 0) h1 (j := j * 7 + 1) (by simp [ints] at hl7 ⊢; omega)
              rw [ints_set] at h2
              have o2 := o1.trans (Only.setCell _ (a := ⟨g, j * 7 + 1, none⟩) (by simp [Value.ownBlock]) (.int .i64 0))
              have h3 := ownsRow_set (u := .int .i64 0) h2 (j := j * 7 + 2) (by simp [ints] at hl7 ⊢; omega)
              rw [ints_set] at h3
              have o3 := o2.trans (Only.setCell _ (a := ⟨g, j * 7 + 2, none⟩) (by simp [Value.ownBlock]) (.int .i64 0))
              have h4 := ownsRow_set (u := .int .i64 0) h3 (j := j * 7 + 3) (by simp [ints] at hl7 ⊢; omega)
              rw [ints_set] at h4
              have o4 := o3.trans (Only.setCell _ (a := ⟨g, j * 7 + 3, none⟩) (by simp [Value.ownBlock]) (.int .i64 0))
              have h5 := ownsRow_set (u := .int .i64 0) h4 (j := j * 7 + 4) (by simp [ints] at hl7 ⊢; omega)
              rw [ints_set] at h5
              have o5 := o4.trans (Only.setCell _ (a := ⟨g, j * 7 + 4, none⟩) (by simp [Value.ownBlock]) (.int .i64 0))
              have h6 := ownsRow_set (u := .int .i64 0) h5 (j := j * 7 + 5) (by simp [ints] at hl7 ⊢; omega)
              rw [ints_set] at h6
              have o6 := o5.trans (Only.setCell _ (a := ⟨g, j * 7 + 5, none⟩) (by simp [Value.ownBlock]) (.int .i64 0))
              have h7 := ownsRow_set (u := .int .i64 0) h6 (j := j * 7 + 6) (by simp [ints] at hl7 ⊢; omega)
              rw [ints_set] at h7
              have o7 := o6.trans (Only.setCell _ (a := ⟨g, j * 7 + 6, none⟩) (by simp [Value.ownBlock]) (.int .i64 0))
              have HF := Lib.hid (And.intro h7 o7)
              clear h0 h1 h2 h3 h4 h5 h6 h7 o0 o1 o2 o3 o4 o5 o6 o7 hl7
              have HJ := Lib.hid hj
              have hjj : (j : Int) < xn := by omega
              have hjn : j ≤ 4200 := by omega
              clear hj hrow hO hlen
              go_wp2_with fail
              go_roundg (xn - (j + 1))
              case measure => have := HJ.out; omega
              case rel => exact ⟨j + 1, _, by have := HJ.out; omega, by go_num, HF.out⟩
            · --DONE
              obtain rfl : xn = j := by omega
              have s5 := HS4.out.1.wrote (x := (⟨.slice xd xn xc, xn, XL, .slice qd xn qc, xmark, xdue⟩ : Ent)) (L' := L2) 13 rfl hO hrow (Nat.le_trans HB.out HS4.out.2.only.size)
              have HS5 : Hid (Star base (rowPc base 3 1 d0 m (dus es) :: rowPc base 3 1 m0 m (mks es) :: rowPc base 58 1 n0 m (es.map Ent.note) :: rowPc base 58 1 w0 m (es.map Ent.v) :: hdrPc kb turn deep a ⟨jo, jt, jw, jn, jf, jm, jd, jr, sn2⟩ :: (kinY base 58 ⟨jo, jt, jw, jn, jf, jm, jd, jr, sn2⟩ (pc) (ps.map Prod.fst) (pc) (ps.map Prod.snd) (c) (es2.map Ent.v) (c) (es2.map Ent.note) (c) (mks es2) (c) (dus es2) (fc) (fs2.map Ent.v) (fc) (mks fs2) (memPc base 64 7 (es2 ++ fs2 ++ (⟨.slice xd xn xc, xn, L2, .slice qd xn qc, xmark, xdue⟩ : Ent) :: rest) St rs) ++ RR)) _ ∧ Goes L0 (rowPc base 3 1 d0 m (dus es) :: rowPc base 3 1 m0 m (mks es) :: rowPc base 58 1 n0 m (es.map Ent.note) :: rowPc base 58 1 w0 m (es.map Ent.v) :: hdrPc kb turn deep a ⟨jo, jt, jw, jn, jf, jm, jd, jr, sn2⟩ :: (kinY base 58 ⟨jo, jt, jw, jn, jf, jm, jd, jr, sn2⟩ (pc) (ps.map Prod.fst) (pc) (ps.map Prod.snd) (c) (es2.map Ent.v) (c) (es2.map Ent.note) (c) (mks es2) (c) (dus es2) (fc) (fs2.map Ent.v) (fc) (mks fs2) (memPc base 64 7 (es2 ++ fs2 ++ (⟨.slice xd xn xc, xn, L2, .slice qd xn qc, xmark, xdue⟩ : Ent) :: rest) St rs) ++ RR)) w _) := Lib.hid (And.intro s5.1 (HS4.out.2.trans s5.2))
              clear s5 hO hrow HS4 HXO hjx hj
              go_upto_region 21 with fail
              refine wp_star HS5.out ?_
              clear HS5
              intro w5 s5 g5
              -- o
              have r5 : w5.ownsRow base 58 1 jo (pc) (ps.map Prod.fst) := s5.get 5 rfl
              obtain ⟨ox5, oy5, rfl⟩ := own_slice_any r5
              have hh5 : RowV w5 kb 103 (hdrF turn deep a ⟨.slice ox5 (pc) oy5, jt, jw, jn, jf, jm, jd, jr, sn2⟩) 41 := s5.get 4 rfl
              have hb5 : base ≤ w5.heap.size := Nat.le_trans HB.out g5.only.size
              have ca5 : w5.cell? ⟨kb, 31, none⟩ = some (.slice ox5 (pc) oy5) := hh5.cell (by omega)
              have R5 := Lib.hid (ownsRow_only r5 (Only.alloc [] w5 (.cells #[.slice xd xn xc] 58)) (by simp))
              have HS5 := Lib.hid (And.intro s5 g5)
              clear s5 g5 r5 hh5
              go_upto_region 22 with (at_builtin; refine wpList_append3 (by rfl) (.tmp 151) (.tmp 153) 32 (by rfl) base 58 _ _ 1 24 Tryz.underlying32 hi0 hz0 hz1 hz2 rfl (by decide) _ (pc) _ rfl R5.out (some ⟨w5.heap.size, 0, none⟩) 1 1 [.slice xd xn xc] rfl rfl (fun e => by cases e) (fun ad e => by cases e; exact cell_one_new _ _ _) (fun u hu => by simp at hu; subst hu; rfl) (by unfold maxLen; omega) (by omega) (by simp; omega) ?_)
              intro v6 w6 hown6 h6
              obtain ⟨o6, at6⟩ := app3 h6
              have s6 := HS5.out.1.row 5 rfl (Only.alloc [] w5 (.cells #[.slice xd xn xc] 58)) hown6 o6 at6 hb5
              have hh6 : RowV w6 kb 103 (hdrF turn deep a ⟨.slice ox5 (pc) oy5, jt, jw, jn, jf, jm, jd, jr, sn2⟩) 41 := s6.1.get 4 rfl
              have cb5 : w6.cell? ⟨kb, 31, none⟩ = some (.slice ox5 (pc) oy5) := hh6.cell (by omega)
              have fb5 : w6.frozen? ⟨kb, 31, none⟩ = false := hh6.free _
              obtain ⟨ox7, oy7, rfl⟩ := own_slice_any hown6
              have s7 := s6.1.hdr 4 rfl (Only.setCell w6 (a := ⟨kb, 31, none⟩) (by simp) (.slice ox7 (pc + 1) oy7)) (hdrS_o hh6 (.slice ox7 (pc + 1) oy7)) (Nat.le_trans hb5 s6.2.only.size)
              have HS7 : Hid (Star base (rowPc base 3 1 d0 m (dus es) :: rowPc base 3 1 m0 m (mks es) :: rowPc base 58 1 n0 m (es.map Ent.note) :: rowPc base 58 1 w0 m (es.map Ent.v) :: hdrPc kb turn deep a ⟨.slice ox7 (pc + 1) oy7, jt, jw, jn, jf, jm, jd, jr, sn2⟩ :: (kinY base 58 ⟨.slice ox7 (pc + 1) oy7, jt, jw, jn, jf, jm, jd, jr, sn2⟩ (pc + 1) (ps.map Prod.fst ++ [.slice xd xn xc]) (pc) (ps.map Prod.snd) (c) (es2.map Ent.v) (c) (es2.map Ent.note) (c) (mks es2) (c) (dus es2) (fc) (fs2.map Ent.v) (fc) (mks fs2) (memPc base 64 7 (es2 ++ fs2 ++ (⟨.slice xd xn xc, xn, L2, .slice qd xn qc, xmark, xdue⟩ : Ent) :: rest) St rs) ++ RR)) _ ∧ Goes L0 _ w _) := Lib.hid (And.intro s7.1 ((HS5.out.2.trans s6.2).trans s7.2))
              clear hown6 h6 o6 at6 s6 hh6 s7 hb5 ca5
              go_upto_region 22 with fail
              clear cb5 fb5 R5 HS5
              refine wp_star HS7.out ?_
              clear HS7
              intro w7 s7 g7
              -- t (a copy)
              have r7 : w7.ownsRow base 58 1 jt (pc) (ps.map Prod.snd) := s7.get 6 rfl
              obtain ⟨tx7, ty7, rfl⟩ := own_slice_any r7
              have hh7 : RowV w7 kb 103 (hdrF turn deep a ⟨.slice ox7 (pc + 1) oy7, .slice tx7 (pc) ty7, jw, jn, jf, jm, jd, jr, sn2⟩) 41 := s7.get 4 rfl
              have hb7 : base ≤ w7.heap.size := Nat.le_trans HB.out g7.only.size
              have ca7 : w7.cell? ⟨kb, 32, none⟩ = some (.slice tx7 (pc) ty7) := hh7.cell (by omega)
              have HC7 := Lib.hid (fun W (o : Only [] w7 W) => keep_cell o ca7)
              have hv7 : w7.ownsRow base 64 7 (.slice xd xn xc) xn (ints L2) := (s7.get 13 rfl : MemOk base 64 7 (es2 ++ fs2 ++ (⟨.slice xd xn xc, xn, L2, .slice qd xn qc, xmark, xdue⟩ : Ent) :: rest) St rs w7).own (⟨.slice xd xn xc, xn, L2, .slice qd xn qc, xmark, xdue⟩ : Ent) (by simp)
              have HSR := Lib.hid (fun W (o : Only [] w7 W) => own_src (ownsRow_only hv7 o (by simp)))
              have HLN := Lib.hid (show (ints L2).length = xn * 7 from hv7.1)
              have HR7 := Lib.hid (fun W (o : Only [] w7 W) => ownsRow_only r7 o (by simp))
              have HS7 := Lib.hid (And.intro s7 g7)
              have HO1 := Lib.hid (fun u hu => show Value.oneCell' u = true from by simp [ints] at hu; obtain ⟨x, _, rfl⟩ := hu; rfl : ∀ u ∈ ints L2, u.oneCell' = true)
              have hkl := hh7.lt
              clear s7 g7 r7 hh7 hv7
              go_upto_region 22 with fail
              go_cut [] (fun wc' => ∃ td tc tx9 ty9, Star base (rowPc base 3 1 d0 m (dus es) :: rowPc base 3 1 m0 m (mks es) :: rowPc base 58 1 n0 m (es.map Ent.note) :: rowPc base 58 1 w0 m (es.map Ent.v) :: hdrPc kb turn deep a ⟨.slice ox7 (pc + 1) oy7, .slice tx9 (pc + 1) ty9, jw, jn, jf, jm, jd, jr, sn2⟩ :: (kinY base 58 ⟨.slice ox7 (pc + 1) oy7, .slice tx9 (pc + 1) ty9, jw, jn, jf, jm, jd, jr, sn2⟩ (pc + 1) (ps.map Prod.fst ++ [.slice xd xn xc]) (pc + 1) (ps.map Prod.snd ++ [.slice td xn tc]) (c) (es2.map Ent.v) (c) (es2.map Ent.note) (c) (mks es2) (c) (dus es2) (fc) (fs2.map Ent.v) (fc) (mks fs2) (memPc base 64 7 (es2 ++ fs2 ++ (⟨.slice xd xn xc, xn, L2, .slice qd xn qc, xmark, xdue⟩ : Ent) :: rest) ((Value.slice td xn tc).ownBlock.toList ++ St) (⟨.slice td xn tc, xn, L2⟩ :: rs)) ++ RR)) wc' ∧ Goes L0 (rowPc base 3 1 d0 m (dus es) :: rowPc base 3 1 m0 m (mks es) :: rowPc base 58 1 n0 m (es.map Ent.note) :: rowPc base 58 1 w0 m (es.map Ent.v) :: hdrPc kb turn deep a ⟨.slice ox7 (pc + 1) oy7, .slice tx9 (pc + 1) ty9, jw, jn, jf, jm, jd, jr, sn2⟩ :: (kinY base 58 ⟨.slice ox7 (pc + 1) oy7, .slice tx9 (pc + 1) ty9, jw, jn, jf, jm, jd, jr, sn2⟩ (pc + 1) (ps.map Prod.fst ++ [.slice xd xn xc]) (pc + 1) (ps.map Prod.snd ++ [.slice td xn tc]) (c) (es2.map Ent.v) (c) (es2.map Ent.note) (c) (mks es2) (c) (dus es2) (fc) (fs2.map Ent.v) (fc) (mks fs2) (memPc base 64 7 (es2 ++ fs2 ++ (⟨.slice xd xn xc, xn, L2, .slice qd xn qc, xmark, xdue⟩ : Ent) :: rest) ((Value.slice td xn tc).ownBlock.toList ++ St) (⟨.slice td xn tc, xn, L2⟩ :: rs)) ++ RR)) w wc')
              case first =>
                go_region_law (first | (refine step_append3 (by rfl) (.tmp 162) (.tmp 163) 58 (by rfl) w7.heap.size 64 _ _ 7 56 Tryz.underlying58 hi1 hy0 hy1 hy2 rfl (by decide) (.slice (some ⟨w7.heap.size, 0, none⟩) 0 0) 0 [] (by rfl) (World.ownsRow_lit w7.drew #[] 0 (Nat.le_refl _) (by decide) rfl) xd xn xc (ints L2) (by rfl) HLN.out (HSR.out w7 (Only.refl _ _)).1 (HSR.out _ ((Only.drew _ _).trans (Only.alloc _ _ _))).2 HO1.out (by unfold maxLen; omega) (by omega) (by simp) ?_; intro vt wt hownt ht; rw [Nat.zero_add, List.nil_append] at hownt; obtain ⟨td, tc, rfl⟩ := own_slice_any hownt; have ot := ((Only.drew [] w7).trans (Only.alloc _ _ _)).past (app3 ht).1 (by simp [Value.ownBlock]); have hkt := Nat.lt_of_lt_of_le hkl ot.size; have cat := HC7.out _ ot) | (refine step_append3 (by rfl) (.tmp 161) (.tmp 165) 32 (by rfl) base 58 _ _ 1 24 Tryz.underlying32 hi0 hz0 hz1 hz2 rfl (by decide) (.slice tx7 (pc) ty7) (pc) (ps.map Prod.snd) (by rfl) (HR7.out _ (ot.trans (Only.alloc _ _ _))) (some ⟨wt.heap.size, 0, none⟩) 1 1 [.slice td xn tc] (by rfl) rfl (fun e => by cases e) (fun ad e => by cases e; exact cell_one_new _ _ _) (fun u hu => by simp at hu; subst hu; rfl) (by unfold maxLen; omega) (by omega) (by have := ot.size; simp; omega) ?_; intro v8 w8 hown8 h8; obtain ⟨tx9, ty9, rfl⟩ := own_slice_any hown8; have st := HS7.out.1.note 13 rfl ot hownt (by omega) hb7; have hbt := Nat.le_trans hb7 ot.size; have s8 := st.1.row 6 rfl (Only.alloc [] wt _) hown8 (app3 h8).1 (app3 h8).2 hbt; have hh8 : RowV w8 kb 103 (hdrF turn deep a ⟨.slice ox7 (pc + 1) oy7, .slice tx7 (pc) ty7, jw, jn, jf, jm, jd, jr, sn2⟩) 41 := s8.1.get 4 rfl; have cb7 : w8.cell? ⟨kb, 32, none⟩ = some (.slice tx7 (pc) ty7) := hh8.cell (by omega); have fb7 : w8.frozen? ⟨kb, 32, none⟩ = false := hh8.free _; have s9 := s8.1.hdr 4 rfl (Only.setCell w8 (a := ⟨kb, 32, none⟩) (by simp) (.slice tx9 (pc + 1) ty9)) (hdrS_t hh8 (.slice tx9 (pc + 1) ty9)) (Nat.le_trans hbt s8.2.only.size); have HS9 := Lib.hid (And.intro s9.1 (((HS7.out.2.trans st.2).trans s8.2).trans s9.2)); clear hownt ht ot hkt hown8 h8 st s8 hh8 s9 hbt))
                all_goals (go_wp2_with fail; go_meet)
                all_goals exact ⟨_, _, _, _, HS9.out⟩
              case rest =>
                obtain ⟨td, tc, tx9, ty9, s9, g9⟩ := hcut
                obtain ⟨w9, hwk⟩ : ∃ x, x = wc := ⟨_, rfl⟩
                subst hwk
                clear HR7 HS7 HC7 HSR HLN HO1 hkl hb7 ca7
                -- f
                have r9 : w9.ownsRow base 58 1 jf (fc) (fs2.map Ent.v) := s9.get 11 rfl
                obtain ⟨fx9, fy9, rfl⟩ := own_slice_any r9
                have hh9 : RowV w9 kb 103 (hdrF turn deep a ⟨.slice ox7 (pc + 1) oy7, .slice tx9 (pc + 1) ty9, jw, jn, .slice fx9 (fc) fy9, jm, jd, jr, sn2⟩) 41 := s9.get 4 rfl
                have hb9 : base ≤ w9.heap.size := Nat.le_trans HB.out g9.only.size
                have ca9 : w9.cell? ⟨kb, 35, none⟩ = some (.slice fx9 (fc) fy9) := hh9.cell (by omega)
                have R9 := Lib.hid (ownsRow_only r9 (Only.alloc [] w9 (.cells #[.slice xd xn xc] 58)) (by simp))
                have HS9 := Lib.hid (And.intro s9 g9)
                clear s9 g9 r9 hh9
                go_upto_region 24 with (at_builtin; refine wpList_append3 (by rfl) (.tmp 173) (.tmp 175) 32 (by rfl) base 58 _ _ 1 24 Tryz.underlying32 hi0 hz0 hz1 hz2 rfl (by decide) _ (fc) _ rfl R9.out (some ⟨w9.heap.size, 0, none⟩) 1 1 [.slice xd xn xc] rfl rfl (fun e => by cases e) (fun ad e => by cases e; exact cell_one_new _ _ _) (fun u hu => by simp at hu; subst hu; rfl) (by unfold maxLen; omega) (by omega) (by simp; omega) ?_)
                intro v10 w10 hown10 h10
                obtain ⟨o10, at10⟩ := app3 h10
                have s10 := HS9.out.1.row 11 rfl (Only.alloc [] w9 (.cells #[.slice xd xn xc] 58)) hown10 o10 at10 hb9
                have hh10 : RowV w10 kb 103 (hdrF turn deep a ⟨.slice ox7 (pc + 1) oy7, .slice tx9 (pc + 1) ty9, jw, jn, .slice fx9 (fc) fy9, jm, jd, jr, sn2⟩) 41 := s10.1.get 4 rfl
                have cb9 : w10.cell? ⟨kb, 35, none⟩ = some (.slice fx9 (fc) fy9) := hh10.cell (by omega)
                have fb9 : w10.frozen? ⟨kb, 35, none⟩ = false := hh10.free _
                obtain ⟨fx11, fy11, rfl⟩ := own_slice_any hown10
                have s11 := s10.1.hdr 4 rfl (Only.setCell w10 (a := ⟨kb, 35, none⟩) (by simp) (.slice fx11 (fc + 1) fy11)) (hdrS_f hh10 (.slice fx11 (fc + 1) fy11)) (Nat.le_trans hb9 s10.2.only.size)
                have HS11 : Hid (Star base (rowPc base 3 1 d0 m (dus es) :: rowPc base 3 1 m0 m (mks es) :: rowPc base 58 1 n0 m (es.map Ent.note) :: rowPc base 58 1 w0 m (es.map Ent.v) :: hdrPc kb turn deep a ⟨.slice ox7 (pc + 1) oy7, .slice tx9 (pc + 1) ty9, jw, jn, .slice fx11 (fc + 1) fy11, jm, jd, jr, sn2⟩ :: (kinY base 58 ⟨.slice ox7 (pc + 1) oy7, .slice tx9 (pc + 1) ty9, jw, jn, .slice fx11 (fc + 1) fy11, jm, jd, jr, sn2⟩ (pc + 1) (ps.map Prod.fst ++ [.slice xd xn xc]) (pc + 1) (ps.map Prod.snd ++ [.slice td xn tc]) (c) (es2.map Ent.v) (c) (es2.map Ent.note) (c) (mks es2) (c) (dus es2) (fc + 1) (fs2.map Ent.v ++ [.slice xd xn xc]) (fc) (mks fs2) (memPc base 64 7 (es2 ++ fs2 ++ (⟨.slice xd xn xc, xn, L2, .slice qd xn qc, xmark, xdue⟩ : Ent) :: rest) ((Value.slice td xn tc).ownBlock.toList ++ St) (⟨.slice td xn tc, xn, L2⟩ :: rs)) ++ RR)) _ ∧ Goes L0 _ w _) := Lib.hid (And.intro s11.1 ((HS9.out.2.trans s10.2).trans s11.2))
                clear hown10 h10 o10 at10 s10 hh10 s11 hb9 ca9
                go_upto_region 24 with fail
                clear cb9 fb9 R9 HS9
                refine wp_star HS11.out ?_
                clear HS11
                intro w11 s11 g11
                -- r
                have r11 : w11.ownsRow base 3 1 jr (fc) (mks fs2) := s11.get 12 rfl
                obtain ⟨rx11, ry11, rfl⟩ := own_slice_any r11
                have hh11 : RowV w11 kb 103 (hdrF turn deep a ⟨.slice ox7 (pc + 1) oy7, .slice tx9 (pc + 1) ty9, jw, jn, .slice fx11 (fc + 1) fy11, jm, jd, .slice rx11 (fc) ry11, sn2⟩) 41 := s11.get 4 rfl
                have hb11 : base ≤ w11.heap.size := Nat.le_trans HB.out g11.only.size
                have ca11 : w11.cell? ⟨kb, 38, none⟩ = some (.slice rx11 (fc) ry11) := hh11.cell (by omega)
                have R11 := Lib.hid (ownsRow_only r11 (Only.alloc [] w11 (.cells #[.int .i64 xmark] 3)) (by simp))
                have HS11 := Lib.hid (And.intro s11 g11)
                clear s11 g11 r11 hh11
                go_upto_region 8 with (at_builtin; refine wpList_append3 (by rfl) (.tmp 183) (.tmp 185) 29 (by rfl) base 3 _ _ 1 8 Tryz.underlying29 hi2 hx0 hx1 hx2 rfl (by decide) _ (fc) _ rfl R11.out (some ⟨w11.heap.size, 0, none⟩) 1 1 [.int .i64 xmark] rfl rfl (fun e => by cases e) (fun ad e => by cases e; exact cell_one_new _ _ _) (fun u hu => by simp at hu; subst hu; rfl) (by unfold maxLen; omega) (by omega) (by simp; omega) ?_)
                intro v12 w12 hown12 h12
                obtain ⟨o12, at12⟩ := app3 h12
                have s12 := HS11.out.1.row 12 rfl (Only.alloc [] w11 (.cells #[.int .i64 xmark] 3)) hown12 o12 at12 hb11
                have hh12 : RowV w12 kb 103 (hdrF turn deep a ⟨.slice ox7 (pc + 1) oy7, .slice tx9 (pc + 1) ty9, jw, jn, .slice fx11 (fc + 1) fy11, jm, jd, .slice rx11 (fc) ry11, sn2⟩) 41 := s12.1.get 4 rfl
                have cb11 : w12.cell? ⟨kb, 38, none⟩ = some (.slice rx11 (fc) ry11) := hh12.cell (by omega)
                have fb11 : w12.frozen? ⟨kb, 38, none⟩ = false := hh12.free _
                obtain ⟨rx13, ry13, rfl⟩ := own_slice_any hown12
                have s13 := s12.1.hdr 4 rfl (Only.setCell w12 (a := ⟨kb, 38, none⟩) (by simp) (.slice rx13 (fc + 1) ry13)) (hdrS_r hh12 (.slice rx13 (fc + 1) ry13)) (Nat.le_trans hb11 s12.2.only.size)
                have HS13 : Hid (Star base (rowPc base 3 1 d0 m (dus es) :: rowPc base 3 1 m0 m (mks es) :: rowPc base 58 1 n0 m (es.map Ent.note) :: rowPc base 58 1 w0 m (es.map Ent.v) :: hdrPc kb turn deep a ⟨.slice ox7 (pc + 1) oy7, .slice tx9 (pc + 1) ty9, jw, jn, .slice fx11 (fc + 1) fy11, jm, jd, .slice rx13 (fc + 1) ry13, sn2⟩ :: (kinY base 58 ⟨.slice ox7 (pc + 1) oy7, .slice tx9 (pc + 1) ty9, jw, jn, .slice fx11 (fc + 1) fy11, jm, jd, .slice rx13 (fc + 1) ry13, sn2⟩ (pc + 1) (ps.map Prod.fst ++ [.slice xd xn xc]) (pc + 1) (ps.map Prod.snd ++ [.slice td xn tc]) (c) (es2.map Ent.v) (c) (es2.map Ent.note) (c) (mks es2) (c) (dus es2) (fc + 1) (fs2.map Ent.v ++ [.slice xd xn xc]) (fc + 1) (mks fs2 ++ [.int .i64 xmark]) (memPc base 64 7 (es2 ++ fs2 ++ (⟨.slice xd xn xc, xn, L2, .slice qd xn qc, xmark, xdue⟩ : Ent) :: rest) ((Value.slice td xn tc).ownBlock.toList ++ St) (⟨.slice td xn tc, xn, L2⟩ :: rs)) ++ RR)) _ ∧ Goes L0 _ w _) := Lib.hid (And.intro s13.1 ((HS11.out.2.trans s12.2).trans s13.2))
                clear hown12 h12 o12 at12 s12 hh12 s13 hb11 ca11
                go_upto_region 8 with fail
                clear cb11 fb11 R11 HS11
                refine wp_star HS13.out ?_
                clear HS13
                intro w13 s13 g13
                have hbk : base ≤ w13.heap.size := Nat.le_trans HB.out g13.only.size
                have sr := s13.reorder 13 rfl (ys := es2 ++ (fs2 ++ [(⟨.slice xd xn xc, xn, L2, .slice td xn tc, xmark, xdue⟩ : Ent)]) ++ rest) (by simp) hbk
                have hke := markL_due base 64 58 7 (hdrPc kb turn deep a ⟨.slice ox7 (pc + 1) oy7, .slice tx9 (pc + 1) ty9, jw, jn, .slice fx11 (fc + 1) fy11, jm, jd, .slice rx13 (fc + 1) ry13, sn2⟩) es d0 m0 n0 w0 ⟨.slice ox7 (pc + 1) oy7, .slice tx9 (pc + 1) ty9, jw, jn, .slice fx11 (fc + 1) fy11, jm, jd, .slice rx13 (fc + 1) ry13, sn2⟩ es2 fs2 ps (⟨.slice xd xn xc, xn, L2, .slice td xn tc, xmark, xdue⟩ : Ent) rest ((Value.slice td xn tc).ownBlock.toList ++ St) (⟨.slice td xn tc, xn, L2⟩ :: rs) RR
                rw [HML.out, HC.out, HFC.out, HPC.out] at hke
                have HF := Lib.hid (And.intro (sr.1.congr hke.symm) ((g13.trans sr.2).to hke.symm))
                rw [← HREST.out] at HF
                have hgd : Kn.Good ⟨ps ++ [(.slice xd xn xc, .slice td xn tc)], es2 ++ es.drop (i + 1), fs2 ++ [(⟨.slice xd xn xc, xn, L2, .slice td xn tc, xmark, xdue⟩ : Ent)], (Value.slice td xn tc).ownBlock.toList ++ St, ⟨.slice td xn tc, xn, L2⟩ :: rs⟩ sn2 := by rw [HREST.out]; exact good_due (x := (⟨.slice xd xn xc, xn, XL, .slice qd xn qc, xmark, xdue⟩ : Ent)) HGD.out
                have HGD2 := Lib.hid hgd
                clear sr hke hgd s13 g13 hbk
                go_wp2_with fail
                go_roundg (m - (i + 1))
                case measure => have := HI.out; omega
                case rel => exact ⟨i + 1, ⟨.slice ox7 (pc + 1) oy7, .slice tx9 (pc + 1) ty9, jw, jn, .slice fx11 (fc + 1) fy11, jm, jd, .slice rx13 (fc + 1) ry13, sn2⟩, es2, fs2 ++ [(⟨.slice xd xn xc, xn, L2, .slice td xn tc, xmark, xdue⟩ : Ent)], ps ++ [(.slice xd xn xc, .slice td xn tc)], _, _, by have := HI.out; omega, by go_num, HGD2.out, rfl, HF.out⟩
      · --END
        have him : i = m := by omega
        subst him
        have hdrop : es.drop i = [] := List.drop_eq_nil_of_le (by have := HML.out; omega)
        rw [hdrop] at hgood hS hG
        rw [List.append_nil] at hgood
        have hS2 := hS.tail.tail.tail.tail
        have hG2 := (((hG.trans Goes.drop).trans Goes.drop).trans Goes.drop).trans Goes.drop
        have hke : hdrPc kb turn deep a ⟨jo, jt, jw, jn, jf, jm, jd, jr, sn2⟩ :: (kinY base 58 ⟨jo, jt, jw, jn, jf, jm, jd, jr, sn2⟩ ps.length (ps.map Prod.fst) ps.length (ps.map Prod.snd) es2.length (es2.map Ent.v) es2.length (es2.map Ent.note) es2.length (mks es2) es2.length (dus es2) fs2.length (fs2.map Ent.v) fs2.length (mks fs2) (memPc base 64 7 (es2 ++ fs2 ++ []) St rs) ++ RR) = hdrPc kb turn deep a ⟨jo, jt, jw, jn, jf, jm, jd, jr, sn2⟩ :: (kin base 64 58 7 ⟨jo, jt, jw, jn, jf, jm, jd, jr, sn2⟩ ⟨ps, es2, fs2, St, rs⟩ ++ RR) := by rw [List.append_nil]; rfl
        have HF := Lib.hid (HEND.out _ _ _ (hS2.congr hke) (hG2.to hke) hgood rfl)
        clear hke hS2 hG2 hS hG hgood hdrop hlt hi
        go_wp2_with fail
        go_end0
        exact HF.out

end Go.Proofs.YtpknnamficegbaaGreatDoor

