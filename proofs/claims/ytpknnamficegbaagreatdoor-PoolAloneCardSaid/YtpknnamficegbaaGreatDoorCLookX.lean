/- skeinruns.Ints of equal lists; lists that a call has made, apart from the document's worker. Each law names its conditions. · The statement's looks: Gens and Look tell alike, what they told is written over. Condition: the pair stands in the midst of a call as DoSt says. · The statement's does, of the kind 8: both pools answer alike. Conditions: the pair stands in memory as PairAt says, few calls have been. -/
import Derived.Test.YtpknnamficegbaaGreatDoorCBookG
import Derived.Test.YtpknnamficegbaaGreatDoorCRefW
import Derived.Test.YtpknnamficegbaaGreatDoorCPairA
import Derived.Test.YtpknnamficegbaaGreatDoorCPoolK
set_option linter.unusedVariables false
set_option linter.unusedSimpArgs false
set_option linter.unusedSectionVars false
set_option linter.unnecessarySimpa false
namespace Go.Proofs.YtpknnamficegbaaGreatDoor
open Go.RowKit

set_option maxHeartbeats 800000 in
theorem runs_ints (v1 v2 : Value) (xs : List Int) (w : World) (h1 : Reads w v1 xs) (h2 : Reads w v2 xs) (hl : xs.length ≤ 100000) :
    Calls Tryz.prog 37 #[v1, v2] w fun e w' => e = .returned (.bool true) ∧ Only [] w w' := by
  obtain ⟨a1, c1, rfl, h1⟩ := h1
  obtain ⟨a2, c2, rfl, h2⟩ := h2
  have H1 := Lib.hid h1
  have H2 := Lib.hid h2
  clear h1 h2
  go_enter Tryz.func37, Tryz.ntmps37
  go_wp2_with fail
  go_loopg [5] xs.length (fun g s5 wr => ∃ k : Nat, k + g = xs.length ∧ s5 = .int .i64 k ∧ Only [] w wr)
  case atStart => exact ⟨0, by omega, rfl, Only.refl _ _⟩
  case round =>
    obtain ⟨k, hk, rfl, hO⟩ := hrel
    have HK := Lib.hid hk
    by_cases hkn : k < xs.length
    · obtain ⟨b1, o1, rfl, hb1, hc1⟩ := H1.out.resolve_left (fun e => by rw [e] at hkn; exact absurd hkn (Nat.not_lt_zero _))
      obtain ⟨b2, o2, rfl, hb2, hc2⟩ := H2.out.resolve_left (fun e => by rw [e] at hkn; exact absurd hkn (Nat.not_lt_zero _))
      have hx1 := (hO.cell (p := ⟨b1, o1 + k, none⟩) hb1 (by simp)).trans (hc1 k hkn)
      have hx2 := (hO.cell (p := ⟨b2, o2 + k, none⟩) hb2 (by simp)).trans (hc2 k hkn)
      generalize xs.getD k 0 = x at hx1 hx2
      have HO := Lib.hid hO
      have hki : (k : Int) < xs.length := by omega
      have hk1 : (k : Int) ≤ 100000 := by omega
      clear hc1 hc2 hk hO
      go_wp2_with fail
      go_quiet (fail)
      go_wp2_with fail
      go_roundg (gk - 1)
      case measure => have := HK.out; omega
      case rel => exact ⟨k + 1, by have := HK.out; omega, by go_num, HO.out.trans (Only.drewN [] _ _)⟩
    · have hkn' : k = xs.length := by omega
      subst hkn'
      clear hk
      go_wp2_with fail
      go_ret
      exact ⟨rfl, hO⟩

theorem runs_own {w : World} {b1 b2 n1 n2 : Nat} {e1 e2 : TypeId} {v1 v2 : Value} {L : List Int} (h1 : w.ownsRow b1 e1 1 v1 n1 (ints L)) (h2 : w.ownsRow b2 e2 1 v2 n2 (ints L)) (hl : L.length ≤ 100000) :
    Calls Tryz.prog 37 #[v1, v2] w fun e w' => e = .returned (.bool true) ∧ Only [] w w' := runs_ints v1 v2 L w (Reads.of_own h1) (Reads.of_own h2) hl

def gensI (S : Nat → Sl) (j : Nat) : List Int := (List.range j).map fun i => (S (i + 1)).gen
def marksI (S : Nat → Sl) (j : Nat) : List Int := (List.range j).map fun i => (S (i + 1)).mark
theorem gensL_ints (S : Nat → Sl) (j : Nat) : gensL S j = ints (gensI S j) := by simp [gensL, gensI, ints]
theorem marksL_ints (S : Nat → Sl) (j : Nat) : marksL S j = ints (marksI S j) := by simp [marksL, marksI, ints]
theorem trail_ints (L : List Nat) : (L.map fun x => Value.int .i64 (x : Nat)) = ints (L.map fun (x : Nat) => (x : Int)) := by simp [ints]

def slotI (s : Sl) : List Int := [s.gen, s.a, s.b, s.c, s.d, s.mark, s.link]
def slotsI (S : Nat → Sl) (k : Nat) : List Int := (List.range k).flatMap fun j => slotI (S (j + 1))
theorem slotsCells_ints (S : Nat → Sl) (k : Nat) : slotsCells S k = ints (slotsI S k) := by
  simp [slotsCells, slotsI, ints, List.map_flatMap, slotI, slotCells]

/-- A list that was made behind the worker, apart from it. -/
def RowN (W : World) (tb : Nat) (v : Value) (n : Nat) (L : List Value) : Prop := W.ownsRow tb 3 1 v n L ∧ OffTh W tb v

section
variable {w w' w0 : World} {tb n mb k : Nat} {v : Value} {L : List Value}

theorem OffTh.keep {S : List Nat} (h : OffTh w tb v) (o : Only S w w') (ht : tb < w.heap.size) (hn : tb ∉ S) : OffTh w' tb v := fun b hb => ⟨(h b hb).1, by rw [logB_only o ht hn]; exact (h b hb).2⟩

theorem RowN.only {S : List Nat} (h : RowN w tb v n L) (o : Only S w w') (ht : tb < w.heap.size) (hn : tb ∉ S) (hv : ∀ b, v.ownBlock = some b → b ∉ S) : RowN w' tb v n L := ⟨ownsRow_only h.1 o hv, h.2.keep o ht hn⟩

theorem RowN.plain (h : RowN w tb v n L) (o : Only [] w w') (ht : tb < w.heap.size) : RowN w' tb v n L := h.only o ht (by simp) (by simp)

theorem RowN.byd {A : List Nat} (h : RowN w tb v n L) (o : Byd tb A w w') (hA : ∀ b, b ∈ A → b < tb) : RowN w' tb v n L := o.own_row h.1 h.2 hA

theorem RowN.new (hT : ThAt w tb mb k) (o : Only [] w w') (hown : w'.ownsRow w.heap.size 3 1 v n L) : RowN w' tb v n L :=
  ⟨ownsRow_base hown (Nat.le_of_lt hT.lt), fun b hb => NotTh.new hT o (hown.lt b hb).1⟩

theorem DoSt.off {B : PB} {s sd : Ps} {hs : List Int} {S : List Nat} (h : DoSt w0 w B n s sd hs tb k) (o : Only S w w') (hS : ∀ b, b ∈ S → tb ≤ b ∧ NotTh w tb b) : DoSt w0 w' B n s sd hs tb k := by
  have hn : ∀ b, b ∈ B.bl → b ∉ S := fun b hb hm => by have := h.low b hb; have := h.tb; have := (hS b hm).1; omega
  exact ⟨h.head.only o (hn _ (by simp [PB.bl])), PoolR.only h.prog o (fun b hb => hn b (by simp [PB.bl, hb])), ⟨RefQ.only h.doc.q o (fun b hb => hn b (by simp [PB.bl, hb])), h.doc.th.off o (fun b hb => (hS b hb).2), h.doc.low⟩, ownsRow_only h.own o (fun b hb => hn b (by simp [PB.bl, hb])), h.only.past o (fun b hb => Or.inr (Nat.le_trans h.tb (hS b hb).1)), h.tb, h.low, h.ax, h.ar, h.av⟩

theorem DoSt.th {B : PB} {s sd : Ps} {hs : List Int} (h : DoSt w0 w B n s sd hs tb k) : tb < w.heap.size := h.doc.th.lt

theorem DoSt.rlow {B : PB} {s sd : Ps} {hs : List Int} (h : DoSt w0 w B n s sd hs tb k) : ∀ b, b ∈ B.R.all → b < tb := fun b hb => h.doc.mem_lt hb

theorem DoSt.mono {B : PB} {s sd : Ps} {hs : List Int} {k' : Nat} (h : DoSt w0 w B n s sd hs tb k) (hk : k ≤ k') : DoSt w0 w B n s sd hs tb k' := ⟨h.head, h.prog, h.doc.mono hk, h.own, h.only, h.tb, h.low, h.ax, h.ar, h.av⟩

/-- One cell of such a list is written over. -/
theorem RowN.write {g c j : Nat} {u : Value} (h : RowN w tb (.slice (some ⟨g, 0, none⟩) n c) n L) (hj : j < L.length) (ht : tb < w.heap.size) : RowN (w.setCell ⟨g, j, none⟩ u) tb (.slice (some ⟨g, 0, none⟩) n c) n (L.set j u) :=
  ⟨ownsRow_set h.1 hj, h.2.keep (S := [g]) (Only.setCell _ (by simp) _) ht (by simp; exact fun e => (h.2 g rfl).1 e.symm)⟩

end

end Go.Proofs.YtpknnamficegbaaGreatDoor

namespace Go.Proofs.YtpknnamficegbaaGreatDoor
open Go.RowKit

/-- What stands while what was told is written over. -/
def OverSt (w0 W : World) (B : PB) (n : Nat) (s : Ps) (hs : List Int) (tb k : Nat) (va vb vl : Value) (q : Nat) : Prop :=
  DoSt w0 W B n s s hs tb k ∧ (∃ L, RowN W tb va n L) ∧ (∃ L, RowN W tb vb n L) ∧ (∃ L, RowN W tb vl q L)

section
variable {w0 W : World} {B : PB} {n tb k q ga gb gl ac bc lc j : Nat} {s : Ps} {hs : List Int} {va vb vl u u' : Value}

theorem OverSt.write_ab (h : OverSt w0 W B n s hs tb k (.slice (some ⟨ga, 0, none⟩) n ac) (.slice (some ⟨gb, 0, none⟩) n bc) vl q) (h1 : ga ≠ gb) (h2 : vl.ownBlock ≠ some ga) (h3 : vl.ownBlock ≠ some gb) (hj : j < n) : OverSt w0 ((W.setCell ⟨ga, j, none⟩ u).setCell ⟨gb, j, none⟩ u') B n s hs tb k (.slice (some ⟨ga, 0, none⟩) n ac) (.slice (some ⟨gb, 0, none⟩) n bc) vl q := by
  obtain ⟨hD, ⟨La, ha⟩, ⟨Lb, hb⟩, ⟨Ll, hl⟩⟩ := h
  have ht := hD.th
  have o1 : Only [ga] W (W.setCell ⟨ga, j, none⟩ u) := Only.setCell _ (by simp) _
  have o2 : Only [gb] (W.setCell ⟨ga, j, none⟩ u) ((W.setCell ⟨ga, j, none⟩ u).setCell ⟨gb, j, none⟩ u') := Only.setCell _ (by simp) _
  have hga := ha.2 ga rfl
  have hgb := hb.2 gb rfl
  have hat := (ha.1.lt ga rfl).1
  have hbt := (hb.1.lt gb rfl).1
  have hD1 := hD.off o1 (by simp; exact ⟨hat, hga⟩)
  have ht1 := hD1.th
  have hla : La.length = n := by have := ha.1.1; omega
  have hlb : Lb.length = n := by have := hb.1.1; omega
  have ha1 := ha.write (u := u) (j := j) (by omega) ht
  have hb1 := hb.only o1 ht (by simp; exact fun e => hga.1 e.symm) (by intro b e; simp [Value.ownBlock] at e; subst e; simpa using fun e => h1 e.symm)
  have hl1 := hl.only o1 ht (by simp; exact fun e => hga.1 e.symm) (by intro b e; simp; rintro rfl; exact h2 e)
  refine ⟨hD1.off o2 (by simp; exact ⟨hbt, hb1.2 gb rfl⟩), ⟨_, ha1.only o2 ht1 (by simp; exact fun e => hgb.1 e.symm) (by intro b e; simp [Value.ownBlock] at e; subst e; simpa using h1)⟩, ⟨_, hb1.write (u := u') (j := j) (by omega) ht1⟩, ⟨_, hl1.only o2 ht1 (by simp; exact fun e => hgb.1 e.symm) (by intro b e; simp; rintro rfl; exact h3 e)⟩⟩

theorem OverSt.write_l (h : OverSt w0 W B n s hs tb k va vb (.slice (some ⟨gl, 0, none⟩) q lc) q) (h2 : va.ownBlock ≠ some gl) (h3 : vb.ownBlock ≠ some gl) (hj : j < q) : OverSt w0 (W.setCell ⟨gl, j, none⟩ u) B n s hs tb k va vb (.slice (some ⟨gl, 0, none⟩) q lc) q := by
  obtain ⟨hD, ⟨La, ha⟩, ⟨Lb, hb⟩, ⟨Ll, hl⟩⟩ := h
  have ht := hD.th
  have o1 : Only [gl] W (W.setCell ⟨gl, j, none⟩ u) := Only.setCell _ (by simp) _
  have hgl := hl.2 gl rfl
  have hlt := (hl.1.lt gl rfl).1
  have hll : Ll.length = q := by have := hl.1.1; omega
  refine ⟨hD.off o1 (by simp; exact ⟨hlt, hgl⟩), ⟨_, ha.only o1 ht (by simp; exact fun e => hgl.1 e.symm) (by intro b e; simp; rintro rfl; exact h2 e)⟩, ⟨_, hb.only o1 ht (by simp; exact fun e => hgl.1 e.symm) (by intro b e; simp; rintro rfl; exact h3 e)⟩, ⟨_, hl.write (u := u) (j := j) (by omega) ht⟩⟩

end

set_option maxRecDepth 100000 in
set_option maxHeartbeats 4000000 in
theorem looks_ok {w0 w : World} {B : PB} {n tb k : Nat} {s : Ps} {hs : List Int} (H : DoSt w0 w B n s s hs tb k) (hk : k ≤ 1000) :
    Calls Tryz.prog 31 #[.pointer (some ⟨B.x, 0, none⟩), .pointer (some ⟨tb, 0, none⟩)] w fun e w' => e = .returned (.bool true) ∧ ∃ k', DoSt w0 w' B n s s hs tb k' := by
  have hm := PoolR.many H.prog
  have HH := Lib.hid H
  clear H
  go_enter Tryz.func31, Tryz.ntmps31
  go_wp2_with fail
  go_loopg [5, 6, 7, 8, 9, 10, 11, 12] 2 (fun gk s5 s6 s7 s8 s9 s10 s11 s12 W => ∃ i k' : Nat, i + gk = 2 ∧ s5 = .int .i64 i ∧ k' ≤ 1000 + 30000 * i ∧ DoSt w0 W B n s s hs tb k')
  case atStart => exact ⟨0, k, by omega, rfl, by omega, HH.out⟩
  case round =>
    obtain ⟨i, k1, hi, rfl, hk1, hD⟩ := hrel
    have HI := Lib.hid hi
    by_cases hlt : i < 2
    · have hk2 : k1 ≤ 31000 := by omega
      have hh := hD.head
      have z0 : wr.cell? ⟨B.x, 0, none⟩ = some (.pointer (some ⟨B.A.p, 0, none⟩)) := hh.cell 0 rfl
      have HG := Lib.hid (rpool_gens B.A n s.hd s.S s.t s.nx s.fa wr hD.prog)
      have HD := Lib.hid hD
      have hii : (i : Int) < 2 := by omega
      clear hD hh hi
      go_wp2_with fail
      refine HG.out.mono ?_
      rintro e w1 ⟨va, vb, rfl, hT, o1⟩
      rw [gensL_ints, marksL_ints] at hT
      have hra := RowN.new HD.out.doc.th o1 hT.g
      have hrb := RowN.new HD.out.doc.th o1 hT.m
      have HAB := Lib.hid hT.d
      have hD1 := HD.out.plain o1
      have z1 : w1.cell? ⟨B.x, 1, none⟩ = some (.pointer (some ⟨B.R.r, 0, none⟩)) := hD1.head.cell 1 rfl
      have HR1 := Lib.hid (And.intro hra hrb)
      have HG2 := Lib.hid (ref_gens hD1.doc (by omega))
      have HD1 := Lib.hid hD1
      clear hT hra hrb hD1 o1 z0 HG HD
      go_wp2_with fail
      refine HG2.out.mono ?_
      rintro e w2 ⟨vc, vd, rfl, hS⟩
      have hra := HR1.out.1.byd hS.x HD1.out.rlow
      have hrb := HR1.out.2.byd hS.x HD1.out.rlow
      have hD2 := HD1.out.d hS.p hS.x
      have hcg := hS.g
      have hcm := hS.m
      rw [gensL_ints] at hcg
      rw [marksL_ints] at hcm
      have z0 : w2.cell? ⟨B.x, 0, none⟩ = some (.pointer (some ⟨B.A.p, 0, none⟩)) := hD2.head.cell 0 rfl
      have HR2 := Lib.hid (And.intro hra (And.intro hrb (And.intro hcg hcm)))
      have HL := Lib.hid (rpool_look B.A n s.hd s.S s.t s.nx s.fa w2 hD2.prog)
      have HD2 := Lib.hid hD2
      clear hS hra hrb hD2 hcg hcm z1 HR1 HG2 HD1
      go_wp2_with fail
      refine HL.out.mono ?_
      rintro e w3 ⟨vl, rfl, hol, o3⟩
      rw [trail_ints] at hol
      obtain ⟨T, hTT⟩ : ∃ q, (trail n s.nx s.hd).map (fun (x : Nat) => (x : Int)) = q := ⟨_, rfl⟩
      obtain ⟨q, hq⟩ : ∃ q, (trail n s.nx s.hd).length = q := ⟨_, rfl⟩
      have hTq : T.length = q := by rw [← hTT, ← hq]; simp
      have hqn : q ≤ n := by
        rw [← hq]
        exact (trail_rng HD2.out.doc.q.q.hdr HD2.out.doc.q.q.rng).2
      rw [hTT, hq] at hol
      have HTT := Lib.hid (And.intro hTT (And.intro hq hTq))
      have hD3 := HD2.out.plain o3
      have hrl := RowN.new HD2.out.doc.th o3 hol
      have HAL : Hid ((∀ b, va.ownBlock = some b → vl.ownBlock ≠ some b) ∧ (∀ b, vb.ownBlock = some b → vl.ownBlock ≠ some b)) := Lib.hid ⟨fun b hb e => by have := (HR2.out.1.1.lt b hb).2; have := (hol.lt b e).1; omega, fun b hb e => by have := (HR2.out.2.1.1.lt b hb).2; have := (hol.lt b e).1; omega⟩
      have HR3 := Lib.hid (And.intro (HR2.out.1.plain o3 HD2.out.th) (And.intro (HR2.out.2.1.plain o3 HD2.out.th) (And.intro (ownsRow_only HR2.out.2.2.1 o3 (by simp)) (And.intro (ownsRow_only HR2.out.2.2.2 o3 (by simp)) hrl))))
      have z1 : w3.cell? ⟨B.x, 1, none⟩ = some (.pointer (some ⟨B.R.r, 0, none⟩)) := hD3.head.cell 1 rfl
      have HD3 := Lib.hid hD3
      have hgl : (gensI s.S n).length = n := by simp [gensI]
      have hml : (marksI s.S n).length = n := by simp [marksI]
      have HE1 := Lib.hid (runs_own HR3.out.1.1 HR3.out.2.2.1 (by omega))
      have HE2 := Lib.hid (fun W (o : Only [] w3 W) => runs_own (ownsRow_only HR3.out.2.1.1 o (by simp)) (ownsRow_only HR3.out.2.2.2.1 o (by simp)) (by omega))
      clear hTT hq hTq hD3 hrl hol o3 z0 HR2 HL HD2 hgl hml
      go_wp2_with fail
      refine HE1.out.mono ?_
      rintro e w4 ⟨rfl, o4⟩
      have HO4 := Lib.hid o4
      clear o4
      go_wp2_with fail
      refine (HE2.out _ HO4.out).mono ?_
      rintro e w5 ⟨rfl, o5⟩
      have HO5 := Lib.hid (HO4.out.trans o5)
      have z15 := keep_cell HO5.out z1
      have HL6 := Lib.hid (ref_look (HD3.out.plain HO5.out).doc (by omega))
      clear o5 z1
      go_wp2_with fail
      refine HL6.out.mono ?_
      rintro e w6 ⟨vm, rfl, hP6, hX6, how6⟩
      rw [trail_ints, HTT.out.1, HTT.out.2.1] at how6
      have h5 := HD3.out.plain HO5.out
      have ht5 := HD3.out.th
      have hD6 := h5.d hP6 hX6
      have hra := (HR3.out.1.plain HO5.out ht5).byd hX6 h5.rlow
      have hrb := (HR3.out.2.1.plain HO5.out ht5).byd hX6 h5.rlow
      have hrl := (HR3.out.2.2.2.2.plain HO5.out ht5).byd hX6 h5.rlow
      have HE3 := Lib.hid (runs_own hrl.1 how6 (by have := HTT.out.2.2; omega))
      have HD6 := Lib.hid (And.intro hD6 (And.intro hra (And.intro hrb hrl)))
      clear hP6 hX6 how6 h5 ht5 hD6 hra hrb hrl z15 HL6 HE1 HE2 HO4 HO5 HD3 HR3
      go_wp2_with fail
      refine HE3.out.mono ?_
      rintro e w7 ⟨rfl, o7⟩
      have ht6 := HD6.out.1.th
      have HLS : Hid (OverSt w0 w7 B n s hs tb (k1 + 3 * n + 2 * n + 10) va vb vl q) := Lib.hid ⟨HD6.out.1.plain o7, ⟨_, HD6.out.2.1.plain o7 ht6⟩, ⟨_, HD6.out.2.2.1.plain o7 ht6⟩, ⟨_, HD6.out.2.2.2.plain o7 ht6⟩⟩
      clear o7 ht6 HE3 HD6 HTT
      obtain ⟨ad, ac, rfl⟩ : ∃ ad ac, va = .slice ad n ac := by obtain ⟨_, ⟨_, h⟩, _⟩ := HLS.out; exact own_slice_any h.1
      obtain ⟨ld, lc, rfl⟩ : ∃ ad ac, vl = .slice ad q ac := by obtain ⟨_, _, _, ⟨_, h⟩⟩ := HLS.out; exact own_slice_any h.1
      obtain ⟨bd, bc, rfl⟩ : ∃ ad ac, vb = .slice ad n ac := by obtain ⟨_, _, ⟨_, h⟩, _⟩ := HLS.out; exact own_slice_any h.1
      go_upto_block 1 with fail
      go_wp2_with fail
      go_loopg [11] n (fun gj s11 W => ∃ j : Nat, j + gj = n ∧ s11 = .int .i64 j ∧ OverSt w0 W B n s hs tb (k1 + 3 * n + 2 * n + 10) (.slice ad n ac) (.slice bd n bc) (.slice ld q lc) q)
      case atStart => exact ⟨0, by omega, rfl, HLS.out⟩
      case round =>
        obtain ⟨j, hj, rfl, hS⟩ := hrel
        by_cases hjn : j < n
        · have HJ := Lib.hid hj
          obtain ⟨La, hra⟩ := hS.2.1
          obtain ⟨Lb, hrb⟩ := hS.2.2.1
          obtain ⟨ga, c9, e9, ka⟩ := own_at hra.1 (by omega)
          cases e9
          obtain ⟨gb, c9, e9, kb⟩ := own_at hrb.1 (by omega)
          cases e9
          have hne : ga ≠ gb := fun e => HAB.out ga rfl (by rw [e]; rfl)
          obtain ⟨ua, hua⟩ : ∃ u, La[j]? = some u := ⟨_, List.getElem?_eq_getElem (by have := hra.1.1; omega)⟩
          obtain ⟨ub, hub⟩ : ∃ u, Lb[j]? = some u := ⟨_, List.getElem?_eq_getElem (by have := hrb.1.1; omega)⟩
          have y1 := ka j ua hua
          have y2 := kb j ub hub
          have y3 := ownsRow_free hra.1 j
          have y4 := ownsRow_free hrb.1 j
          have HF := Lib.hid (hS.write_ab (j := j) (u := .int .i64 (-1)) (u' := .int .i64 (-1)) hne (HAL.out.1 ga rfl) (HAL.out.2 gb rfl) hjn)
          have hjj : (j : Int) < n := by omega
          have hj4 : j ≤ 4096 := by omega
          clear hj hS hra hrb ka kb hua hub
          go_wp2_with fail
          go_roundg (n - (j + 1))
          case measure => have := HJ.out; omega
          case rel => exact ⟨j + 1, by have := HJ.out; omega, by go_num, HF.out⟩
        · have HLS2 := Lib.hid hS
          have hjn' : n = j := by omega
          obtain rfl := hjn'
          clear hS hj hjn HLS
          go_wp2_with fail
          go_loopg [12] q (fun gj s12 W => ∃ j : Nat, j + gj = q ∧ s12 = .int .i64 j ∧ OverSt w0 W B n s hs tb (k1 + 3 * n + 2 * n + 10) (.slice ad n ac) (.slice bd n bc) (.slice ld q lc) q)
          case atStart => exact ⟨0, by omega, rfl, HLS2.out⟩
          case round =>
            obtain ⟨j, hj, rfl, hS⟩ := hrel
            by_cases hjn : j < q
            · have HJ := Lib.hid hj
              obtain ⟨Ll, hrl⟩ := hS.2.2.2
              obtain ⟨gl, c9, e9, kl⟩ := own_at hrl.1 (by omega)
              cases e9
              obtain ⟨ul, hul⟩ : ∃ u, Ll[j]? = some u := ⟨_, List.getElem?_eq_getElem (by have := hrl.1.1; omega)⟩
              have y1 := kl j ul hul
              have y3 := ownsRow_free hrl.1 j
              have HF := Lib.hid (hS.write_l (j := j) (u := .int .i64 (-1)) (fun e => HAL.out.1 gl e rfl) (fun e => HAL.out.2 gl e rfl) hjn)
              have hjj : (j : Int) < q := by omega
              have hj4 : j ≤ 4096 := by omega
              clear hj hS hrl kl hul
              go_wp2_with fail
              go_roundg (q - (j + 1))
              case measure => have := HJ.out; omega
              case rel => exact ⟨j + 1, by have := HJ.out; omega, by go_num, HF.out⟩
            · have HF := Lib.hid hS.1
              have hjn' : q = j := by omega
              obtain rfl := hjn'
              clear hS hj hjn HLS2
              go_wp2_with fail
              go_roundg (2 - (i + 1))
              case measure => have := HI.out; omega
              case rel => exact ⟨i + 1, _, by have := HI.out; omega, by go_num, by omega, HF.out⟩
    · have HF := Lib.hid hD
      have him : i = 2 := by omega
      subst him
      clear hD hi hlt HI
      go_wp2_with fail
      go_ret
      exact ⟨rfl, _, HF.out⟩

end Go.Proofs.YtpknnamficegbaaGreatDoor

namespace Go.Proofs.YtpknnamficegbaaGreatDoor
open Go.RowKit

set_option maxRecDepth 100000 in
set_option maxHeartbeats 4000000 in
theorem does_8 {w : World} {B : PB} {n c : Nat} {s : Ps} {hs : List Int} {h a v xa xb xc xd : Int} {sec : Bool} (H : PairAt w B n s hs) (I : s.Inv n c) (hc : c + 1 ≤ 1000) (hl : hs.length ≤ 1000) (hr : (-9223372036854775808 ≤ h ∧ h ≤ 9223372036854775807) ∧ (-9223372036854775808 ≤ v ∧ v ≤ 9223372036854775807)) :
    Calls Tryz.prog 6 #[.pointer (some ⟨B.x, 0, none⟩), .agg #[.int .i64 8, .int .i64 h, .int .i64 a, .int .i64 v, .int .i64 xa, .int .i64 xb, .int .i64 xc, .int .i64 xd, .bool sec]] w (DoesOut n (c + 1) (hs.length + 1) B w) := by
  have h2 := H.head.cell 2 rfl
  have hx := H.head.lt
  have HH := Lib.hid H
  have HI := Lib.hid (And.intro I (And.intro hc hl))
  obtain ⟨⟨hr1, hr2⟩, hv1, hv2⟩ := hr
  clear H I
  go_enter Tryz.func6, Tryz.ntmps6
  go_upto_region 1 with fail
  refine wp_name (fun W => Only [] w W ∧ Blk W w.heap.size #[.int .i64 8, .int .i64 h, .int .i64 a, .int .i64 v, .int .i64 xa, .int .i64 xb, .int .i64 xc, .int .i64 xd, .bool sec] 45 ∧ Hid (W.heap.size = w.heap.size + 1)) ⟨Only.alloc _ _ _, Blk.new _ _ _, Lib.hid (by simp)⟩ ?_
  obtain ⟨ob, hob⟩ : ∃ q, w.heap.size = q := ⟨_, rfl⟩
  rw [hob]
  rintro w1 ⟨o1, hB1, hz1⟩
  have HO1 := Lib.hid (And.intro o1 (And.intro hB1 hz1))
  have HOB := Lib.hid hob
  have h2 : w1.cell? ⟨B.x, 2, none⟩ = some (.pointer (some ⟨B.R.m, 0, none⟩)) := keep_cell o1 h2
  clear o1 hB1 hz1 hob hx
  go_wp2_with fail
  refine (th_alone w1 B.R.m).mono ?_
  obtain ⟨tb, htb⟩ : ∃ q, w1.heap.size = q := ⟨_, rfl⟩
  rw [htb]
  have HTB := Lib.hid htb
  rintro e w2 ⟨rfl, hT, o2⟩
  have HD := Lib.hid (HH.out.start HO1.out.1 HTB.out.symm o2 hT)
  have HOP := Lib.hid (HO1.out.2.1.only o2 (by simp))
  have HLT : Hid (ob < tb) := Lib.hid (by have := HO1.out.2.2.out; have := HTB.out; omega)
  have HOX : Hid (∀ b, b ∈ B.bl → b ≠ ob) := Lib.hid (fun b hb e => by have := HH.out.lt b hb; have := HOB.out; omega)
  clear hT o2 htb h2
  have k1 : w2.cell? ⟨ob, 1, none⟩ = some (.int .i64 h) := HOP.out.cell 1 rfl
  obtain ⟨lv, hlv⟩ : ∃ q, B.v = q := ⟨_, rfl⟩
  have hown : w2.ownsRow 0 3 1 lv hs.length (ints hs) := hlv ▸ HD.out.own
  obtain ⟨ld, lc, rfl⟩ := own_slice_any hown
  have k3 : w2.cell? ⟨B.x, 3, none⟩ = some (.slice ld hs.length lc) := by rw [← hlv]; exact HD.out.head.cell 3 rfl
  have HLV := Lib.hid hlv
  have HOW := Lib.hid hown
  obtain ⟨m, hm⟩ : ∃ q, hs.length = q := ⟨_, rfl⟩
  rw [hm] at k3 hl
  have HM := Lib.hid hm
  clear hlv hown hm
  go_upto_region 3 with fail
  go_cut [49] from 38 to 49 (fun s49 wc' => s49 = .bool (decide (h < 0 ∧ -(m : Int) ≤ h)) ∧ w2 = wc')
  case first =>
    have hw3 : IntKind.i64.wrap (-(m : Int)) = -(m : Int) := IntWalk.i64_in _ ⟨by omega, by omega⟩
    by_cases hn0 : h < 0
    · by_cases hge : -(m : Int) ≤ h
      · skip
        go_wp2_with fail
        go_meet
        exact ⟨by simp [hn0, hge], rfl⟩
      · skip
        go_wp2_with fail
        go_meet
        exact ⟨by simp; omega, rfl⟩
    · skip
      go_wp2_with fail
      go_meet
      exact ⟨by simp; omega, rfl⟩
  case rest =>
  obtain ⟨rfl, hwc⟩ := hcut
  subst hwc
  obtain ⟨cc, hcc⟩ : ∃ q, decide (h < 0 ∧ -(m : Int) ≤ h) = q := ⟨_, rfl⟩
  rw [hcc]
  have HCC := Lib.hid hcc
  clear hcc
  go_upto_if 49 with fail
  go_cut [6] from 50 to 58 (fun s6 wc' => ∃ h2 : Int, s6 = .int .i64 h2 ∧ w2 = wc')
  case first =>
    cases cc with
    | true =>
      have hneg : h < 0 ∧ -(m : Int) ≤ h := by simpa using HCC.out
      obtain ⟨hneg, hge⟩ := hneg
      obtain ⟨lg, lcc, e1, hcells⟩ := own_at HOW.out (by have := HM.out; omega)
      cases e1
      obtain ⟨x, hxx⟩ : ∃ x, (ints hs)[(-h - 1).toNat]? = some (.int .i64 x) := by
        have hlt : (-h - 1).toNat < hs.length := by have := HM.out; omega
        exact ⟨hs[(-h - 1).toNat]'hlt, by simp [ints, List.getElem?_eq_getElem hlt]⟩
      have lx := hcells _ _ hxx
      obtain ⟨j, hj⟩ : ∃ j : Nat, -h - 1 = (j : Int) := ⟨(-h - 1).toNat, by omega⟩
      have hjm : (j : Int) < m := by omega
      have hjn : (-h - 1).toNat = j := by omega
      rw [hjn] at lx
      have hj0 : (0 : Int) ≤ (j : Int) := by omega
      have hw1 : IntKind.i64.wrap (-h) = -h := IntWalk.i64_in _ ⟨by omega, by omega⟩
      have hw2 : IntKind.i64.wrap (-h - 1) = (j : Int) := by rw [IntWalk.i64_in _ ⟨by omega, by omega⟩]; exact hj
      clear hcells hxx hjn hj
      go_wp2_with fail
      go_meet
      exact ⟨_, rfl, rfl⟩
    | false =>
      go_wp2_with fail
      go_meet
      exact ⟨_, rfl, rfl⟩
  case rest =>
    obtain ⟨hq, rfl, hwc⟩ := hcut
    subst hwc
    clear k1 k3 HOW
    have k0 : w2.cell? ⟨ob, 0, none⟩ = some (.int .i64 8) := HOP.out.cell 0 rfl
    have HLK := Lib.hid (looks_ok HD.out (by omega))
    go_wp2_with fail
    refine HLK.out.mono ?_
    rintro e w4 ⟨rfl, k', hst⟩
    go_wp2_with fail
    go_ret
    exact hst.out (HI.out.1.more HI.out.2.1) (by have := HM.out; omega)

end Go.Proofs.YtpknnamficegbaaGreatDoor

