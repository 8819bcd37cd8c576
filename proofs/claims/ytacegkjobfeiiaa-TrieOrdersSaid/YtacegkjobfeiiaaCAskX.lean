/- least as a call: the pair of a map's least key. Conditions: the pool stands in memory as PoolAt says, the map in it as Rep says. · Next as a call. Conditions: the pool stands in memory as PoolAt says, the map in it as Rep says. · Rank as a call. Conditions: the pool stands in memory as PoolAt says, the map in it as Rep says. · Select as a call. Conditions: the pool stands in memory as PoolAt says, the map in it as Rep says. · What takes an iterator's changes: given's closure as a call. Conditions: its variables stand in memory as Got says. -/
import Derived.Test.YtacegkjobfeiiaaCTrieQ
set_option linter.unusedVariables false
set_option linter.unusedSimpArgs false
set_option linter.unusedSectionVars false
set_option linter.unnecessarySimpa false
namespace Go.Proofs.Ytacegkjobfeiiaa
open Go.RowKit

theorem pair_zero (w : World) : (zeroValue 56).run Try.prog w = .ok (.agg #[.int .i64 0, .int .i64 0]) w := by kernel_rfl

def LeastRel (S : Nat → Sl) (n : Nat) (x : Tr) (w : World) (rb nb : Nat) (g : Nat) (wr : World) : Prop :=
  ∃ y : Tr, y.cnt = g ∧ y.least = x.least ∧ y.wf ∧ Rep n S y ∧ Blk wr nb #[.int .i64 (hnd S y), shV S y] 125 ∧ Blk wr rb #[.int .i64 0, .int .i64 0] 56 ∧ Only [] w wr

set_option maxRecDepth 100000 in
set_option maxHeartbeats 4000000 in
theorem trie_least {A : PA} {n : Nat} {S : Nat → Sl} {t : Int} {fs : List Nat} {fa : Int} {tb : Nat} {x : Tr} {w : World} (T : TrAt w tb A n S t fs fa) (R : Rep n S x) (wf : x.wf) :
    Calls Try.prog 57 #[.pointer (some ⟨tb, 0, none⟩), .pointer none, ndV S x] w fun e w' => e = .returned (.tuple #[.agg #[.int .i64 x.least.1, .int .i64 x.least.2], .int .i64 0]) ∧ Only [] w w' := by
  have hpz := pair_zero
  obtain ⟨ty0, sv0, hsv0⟩ := shV_one S x
  rw [ndV_agg, hsv0]
  have HSV := Lib.hid hsv0
  have HT := Lib.hid T
  have HR := Lib.hid R
  have HWF := Lib.hid wf
  clear T R wf hsv0
  generalize hh0 : hnd S x = h0 at *
  have HH0 := Lib.hid hh0
  clear hh0
  go_enter Try.func57, Try.ntmps57
  go_wp2_with fail
  obtain ⟨nb, hnb⟩ : ∃ nb, w.heap.size = nb := ⟨_, rfl⟩
  have HNB := Lib.hid hnb
  refine wp_name (fun w1 => Blk w1 nb #[.int .i64 h0, .iface ty0 sv0] 125 ∧ Blk w1 (nb + 1) #[.int .i64 0, .int .i64 0] 56 ∧ Only [] w w1) ?_ ?_
  · refine ⟨?_, ?_, (Only.alloc [] _ _).trans (Only.alloc [] _ _)⟩
    · have := (Blk.new w #[.int .i64 h0, .iface ty0 sv0] 125).alloc (.cells #[.int .i64 0, .int .i64 0] 56)
      rw [hnb] at this
      exact this
    · have := Blk.new (w.alloc (.cells #[.int .i64 h0, .iface ty0 sv0] 125)) #[.int .i64 0, .int .i64 0] 56
      have e : (w.alloc (.cells #[.int .i64 h0, .iface ty0 sv0] 125)).heap.size = nb + 1 := by rw [← hnb]; simp
      rw [e] at this
      exact this
  rw [hnb]
  clear hnb
  rintro w1 ⟨hN1, hR1, hO1⟩
  have HN1 := Lib.hid hN1
  have HR1 := Lib.hid hR1
  have HO1 := Lib.hid hO1
  clear hN1 hR1 hO1
  go_loopg [] x.cnt (LeastRel S n x w (nb + 1) nb)
  case atStart => exact ⟨x, rfl, rfl, HWF.out, HR.out, by rw [HH0.out, HSV.out]; exact HN1.out, HR1.out, HO1.out⟩
  case round =>
    clear HN1 HR1 HO1
    obtain ⟨y, hg, hle, hwf, hrep, hN, hRB, hO⟩ := hrel
    have HG := Lib.hid hg
    have HLE := Lib.hid hle
    have HRB := Lib.hid hRB
    have HO := Lib.hid hO
    cases y with
    | leaf i kk vv =>
      have hta := assertL_leaf kk vv
      have n1 : wr.cell? ⟨nb, 1, none⟩ = some (.iface 129 (.agg #[.int .i64 kk, .int .i64 vv])) := hN.cell 1 rfl
      clear hg hle hwf hrep hRB hO hN
      go_upto_region 4 with fail
      refine wp_name (fun w2 => Blk w2 (nb + 1) #[.int .i64 0, .int .i64 0] 56 ∧ Blk w2 wr.heap.size #[.int .i64 kk, .int .i64 vv] 129 ∧ Only [] w w2) ⟨HRB.out.alloc _, Blk.new _ _ _, HO.out.trans (Only.alloc _ _ _)⟩ ?_
      generalize wr.heap.size = lb
      clear hta n1
      rintro w2 ⟨hR2, hL2, hO2⟩
      have l0 := hL2.cell 0 rfl
      have l1 := hL2.cell 1 rfl
      have r0 := hR2.cell 0 rfl
      have r1 := hR2.cell 1 rfl
      have q0 := hR2.free 0
      have q1 := hR2.free 1
      have HO2 := Lib.hid hO2
      have HR2 := Lib.hid hR2
      clear hR2 hL2 hO2
      go_wp2_with fail
      have h5 := (HR2.out.set_same 0 (.int .i64 kk)).set_same 1 (.int .i64 vv)
      have o5 : Only [nb + 1] w2 ((w2.setCell ⟨nb + 1, 0, none⟩ (.int .i64 kk)).setCell ⟨nb + 1, 1, none⟩ (.int .i64 vv)) := (Only.setCell _ (by simp) _).trans (Only.setCell _ (by simp) _)
      generalize ((w2.setCell ⟨nb + 1, 0, none⟩ (.int .i64 kk)).setCell ⟨nb + 1, 1, none⟩ (.int .i64 vv)) = w3 at h5 o5 ⊢
      have e0 : w3.cell? ⟨nb + 1, 0, none⟩ = some (.int .i64 kk) := h5.cell 0 rfl
      have e1 : w3.cell? ⟨nb + 1, 1, none⟩ = some (.int .i64 vv) := h5.cell 1 rfl
      refine bodyPost_ret (v := .tuple #[.agg #[.int .i64 kk, .int .i64 vv], .int .i64 0]) (by simp [results, Try.results57, go_sem, e0, e1]) rfl ⟨?_, ?_⟩
      · rw [← HLE.out]; rfl
      · exact HO2.out.past o5 (fun b hb => by simp at hb; right; have := HNB.out; omega)
    | node i p f l r =>
      have HREP := Lib.hid hrep
      have HWF1 := Lib.hid hwf
      have hta : ∀ w, (Instr.typeAssert (.iface 135 (.agg #[.int .i64 p, .int .i64 f, .int .i64 (hnd S l), .int .i64 (hnd S r), .int .i64 ((Tr.node i p f l r).cnt : Nat)])) 123 129 true).run Try.prog w = _ := fun w => assertL_inner p f (hnd S l) (hnd S r) ((Tr.node i p f l r).cnt : Nat) w
      have htb := assert_inner p f (hnd S l) (hnd S r) ((Tr.node i p f l r).cnt : Nat)
      have n1 : wr.cell? ⟨nb, 1, none⟩ = some (.iface 135 (.agg #[.int .i64 p, .int .i64 f, .int .i64 (hnd S l), .int .i64 (hnd S r), .int .i64 ((Tr.node i p f l r).cnt : Nat)])) := hN.cell 1 rfl
      have HN := Lib.hid (hN : Blk wr nb #[.int .i64 (hnd S (.node i p f l r)), shV S (.node i p f l r)] 125)
      have hlf := (fun w T => trie_left (w := w) (S := S) (tb := tb) (A := A) (n := n) (t := t) (fs := fs) (fa := fa) T HREP.out HWF1.out (hnd S r) ((Tr.node i p f l r).cnt : Nat))
      obtain ⟨ty, sv, hsv⟩ := shV_one S l
      simp only [ndV_agg, hsv] at hlf
      have HSV1 := Lib.hid hsv
      have HLF := Lib.hid hlf
      clear hg hle hwf hrep hRB hO hN hlf hsv
      unfold innerV at HLF
      generalize hvl : hnd S l = vl at *
      generalize hvr : hnd S r = vr at *
      generalize hvc : (((Tr.node i p f l r).cnt : Nat) : Int) = vc at *
      have HVL := Lib.hid hvl
      clear hvl hvr hvc
      go_upto_region 7 with fail
      refine wp_name (fun w2 => Blk w2 (nb + 1) #[.int .i64 0, .int .i64 0] 56 ∧ (∃ ib, ib = wr.heap.size ∧ Blk w2 ib #[.int .i64 p, .int .i64 f, .int .i64 vl, .int .i64 vr, .int .i64 vc] 135) ∧ Blk w2 nb #[.int .i64 (hnd S (.node i p f l r)), shV S (.node i p f l r)] 125 ∧ Only [] w w2) ⟨HRB.out.alloc _, ⟨_, rfl, Blk.new _ _ _⟩, HN.out.alloc _, HO.out.trans (Only.alloc _ _ _)⟩ ?_
      clear hta htb n1
      generalize wr.heap.size = ib
      rintro w2 ⟨hR2, ⟨ib', rfl, hI2⟩, hN2, hO2⟩
      have d0 := hI2.cell 0 rfl
      have d1 := hI2.cell 1 rfl
      have d2 := hI2.cell 2 rfl
      have d3 := hI2.cell 3 rfl
      have d4 := hI2.cell 4 rfl
      have HR2 := Lib.hid hR2
      have HN2 := Lib.hid hN2
      have HO2 := Lib.hid hO2
      clear hR2 hI2 hN2 hO2
      go_wp2_with fail
      refine (HLF.out _ (HT.out.plain HO2.out)).mono ?_
      rintro e w3 ⟨rfl, hX3⟩
      have HR3 := Lib.hid (HR2.out.only hX3 (by simp))
      have hN3 := HN2.out.only hX3 (by simp)
      have HN3 := Lib.hid hN3
      have HO3 := Lib.hid (HO2.out.trans hX3)
      clear hX3 hN3 d0 d1 d2 d3 d4 HR2 HN2 HO2 HLF
      go_upto_region 10 with fail
      refine wp_name (fun w4 => Blk w4 (nb + 1) #[.int .i64 0, .int .i64 0] 56 ∧ Blk w4 w3.heap.size #[.int .i64 vl, .iface ty sv] 125 ∧ Blk w4 nb #[.int .i64 (hnd S (.node i p f l r)), shV S (.node i p f l r)] 125 ∧ Only [] w w4) ⟨HR3.out.alloc _, Blk.new _ _ _, HN3.out.alloc _, HO3.out.trans (Only.alloc _ _ _)⟩ ?_
      generalize w3.heap.size = mb
      rintro w4 ⟨hR4, hM4, hN4, hO4⟩
      have m0 := hM4.cell 0 rfl
      have m1 := hM4.cell 1 rfl
      obtain ⟨z0, z1, hN4'⟩ : ∃ z0 z1, Blk w4 nb #[z0, z1] 125 := ⟨_, _, hN4⟩
      have k0 := hN4'.cell 0 rfl
      have k1 := hN4'.cell 1 rfl
      have f0 := hN4'.free 0
      have f1 := hN4'.free 1
      have HR4 := Lib.hid hR4
      have HN4 := Lib.hid hN4'
      have HO4 := Lib.hid hO4
      clear hR4 hM4 hN4 hO4 hN4' HR3 HN3 HO3
      go_wp2_with fail
      go_roundg l.cnt
      case measure => have := HG.out; simp only [Tr.cnt] at this; have := Tr.cnt_pos r; omega
      case rel =>
        have hX8 : Only [nb] w4 ((w4.setCell ⟨nb, 0, none⟩ (.int .i64 vl)).setCell ⟨nb, 1, none⟩ (.iface ty sv)) := (Only.setCell _ (by simp) _).trans (Only.setCell _ (by simp) _)
        obtain ⟨_, _, _, _, wl, _⟩ := HWF1.out
        refine ⟨l, rfl, ?_, wl, HREP.out.2.2.2.2.2.1, ?_, HR4.out.only hX8 (by simp), HO4.out.past hX8 (fun b hb => by simp at hb; right; have := HNB.out; omega)⟩
        · rw [← HLE.out]; rfl
        · rw [HVL.out, HSV1.out]
          exact (HN4.out.set_same 0 (.int .i64 vl)).set_same 1 (.iface ty sv)

end Go.Proofs.Ytacegkjobfeiiaa

namespace Go.Proofs.Ytacegkjobfeiiaa
open Go.RowKit

theorem nextAt_drop {k : Int} {n : Tr} {y : KV} : ∀ (W : List Stp) (q : Nat), nextAt k (W.drop q) n = some y → nextAt k W n = some y
  | W, 0, h => h
  | [], q + 1, h => h
  | s :: W, q + 1, h => by
    have ih := nextAt_drop W q h
    unfold nextAt
    rw [ih]

theorem nextAt_step {k : Int} {n : Tr} {W : List Stp} {q : Nat} {s : Stp} (hs : W[q]? = some s) (h : nextAt k (W.drop (q + 1)) n = none) : nextAt k (W.drop q) n = if s.right then none else some s.r.least := by
  have hl : q < W.length := (List.getElem?_eq_some_iff.1 hs).1
  have e : W.drop q = s :: W.drop (q + 1) := by
    rw [List.drop_eq_getElem_cons hl]
    rw [List.getElem?_eq_getElem hl] at hs
    injection hs with hs
    rw [hs]
  rw [e]
  unfold nextAt
  rw [h]

/-- What Next tells. -/
def NextPost (o : Option KV) (w : World) (e : Ending) (w' : World) : Prop :=
  (match o with
   | some y => e = .returned (.tuple #[.agg #[.int .i64 y.1, .int .i64 y.2], .int .i64 0])
   | none => e = .returned (.tuple #[.agg #[.int .i64 0, .int .i64 0], .int .i64 122])) ∧ Only [] w w'

set_option maxRecDepth 100000 in
set_option maxHeartbeats 4000000 in
theorem next_some {A : PA} {n : Nat} {S : Nat → Sl} {t : Int} {fs : List Nat} {fa : Int} {tb : Nat} {x : Tr} {k : Int} {w : World} (T : TrAt w tb A n S t fs fa) (R : Rep n S x) (wf : x.wf) (hk : 0 ≤ k ∧ k < 4294967295) :
    Calls Try.prog 29 #[.pointer (some ⟨tb, 0, none⟩), .pointer none, .int .i64 (hnd S x), .int .i64 k] w (NextPost (nextAt (k + 1) (down x (k + 1)).1 (down x (k + 1)).2) w) := by
  have hpz := pair_zero
  have hka : isK k = true := by simp [isK]; omega
  have HKEY := Lib.hid (fun w => trie_key k w)
  rw [hka] at HKEY
  have hx0 : (hnd S x == 0) = false := by have := hnd_pos R; simp; omega
  have hkm : (k == 4294967295) = false := by simp; omega
  have hkw : RowKit.wrap64 (k + 1) = k + 1 := w64 _ (by omega)
  have HDN := Lib.hid (fun w T => trie_down (w := w) (A := A) (n := n) (S := S) (t := t) (fs := fs) (fa := fa) (tb := tb) (k := k + 1) T R wf)
  have hk0 : 0 ≤ k := hk.1
  have hk1 : k < 4294967295 := hk.2
  have HT := Lib.hid T
  have HR := Lib.hid R
  have HWF := Lib.hid wf
  clear T R wf hka hk
  generalize hhx : hnd S x = hx at *
  clear hhx
  go_enter Try.func29, Try.ntmps29
  go_wp2_with fail
  refine calls_name (fun w1 => Blk w1 w.heap.size #[.int .i64 0, .int .i64 0] 56 ∧ TrAt w1 tb A n S t fs fa ∧ Only [] w w1) ⟨Blk.new _ _ _, HT.out.plain (Only.alloc _ _ _), Only.alloc _ _ _⟩ ?_
  obtain ⟨rb, hrb⟩ : ∃ rb, w.heap.size = rb := ⟨_, rfl⟩
  have HRB := Lib.hid hrb
  rw [hrb]
  clear hrb
  rintro w1 ⟨hR1, hT1, hO1⟩
  have HR1 := Lib.hid hR1
  have HT1 := Lib.hid hT1
  have HO1 := Lib.hid hO1
  clear hR1 hT1 hO1
  refine (HKEY.out _).mono ?_
  rintro e w2 ⟨rfl, rfl⟩
  go_wp2_with fail
  refine (HDN.out w1 HT1.out).mono ?_
  rintro e w2 ⟨way, rfl, hown, hX2⟩
  obtain ⟨ad, cap, rfl, hcap, hway⟩ := own_steps hown
  have hway2 : ∃ g, WayOk w2 S ad g (down x (k + 1)).1 := by
    rcases hway with ⟨h1, h2⟩ | ⟨g, h1, h2, h3⟩
    · exact ⟨rb, Nat.lt_of_lt_of_le HR1.out.lt hX2.size, Or.inl h1⟩
    · exact ⟨g, h3.lt, Or.inr ⟨h1, h3⟩⟩
  obtain ⟨g, hg3⟩ := hway2
  obtain ⟨W, hW⟩ : ∃ W, (down x (k + 1)).1 = W := ⟨_, rfl⟩
  obtain ⟨nn, hnn⟩ : ∃ nn, (down x (k + 1)).2 = nn := ⟨_, rfl⟩
  have hWl : W.length ≤ 32 := by
    have h1 := down_len x (k + 1) HWF.out
    have h2 := rk_le HWF.out
    rw [hW] at h1
    omega
  have HFIN := Lib.hid (show nextAt (k + 1) (down x (k + 1)).1 (down x (k + 1)).2 = nextAt (k + 1) W nn by rw [hW, hnn])
  have hwy := down_way x (k + 1)
  rw [hW, hnn] at hwy
  have hww := way_wf hwy HWF.out
  have hwr := way_rep hwy HR.out
  have HWW := Lib.hid hww
  have HWR := Lib.hid hwr
  rw [hW] at hg3
  have HG := Lib.hid hg3
  have HR2 := Lib.hid (HR1.out.only hX2 (by simp))
  have HT2 := Lib.hid (HT1.out.plain hX2)
  have HO2 := Lib.hid (HO1.out.trans hX2)
  obtain ⟨ty, sv, fm, hsv, hme, hen, hsp⟩ := span_meth S hww.1
  have HSV := Lib.hid hsv
  have HSP := Lib.hid hsp
  rw [hW, hnn, ndV_agg, hsv]
  have hrs2 : rb < w2.heap.size := HR2.out.lt
  clear hown hX2 hway hg3 hwy hww hwr hW hnn hsv hsp HR1 HT1 HO1 hcap HDN
  obtain ⟨hn, hhn⟩ : ∃ hn, hnd S nn = hn := ⟨_, rfl⟩
  have HHN := Lib.hid hhn
  rw [hhn]
  clear hhn
  go_upto_region 8 with fail
  refine wp_name (fun w3 => Blk w3 rb #[.int .i64 0, .int .i64 0] 56 ∧ Blk w3 w2.heap.size #[.int .i64 hn, .iface ty sv] 125 ∧ TrAt w3 tb A n S t fs fa ∧ WayOk w3 S ad g W ∧ Only [] w w3) ⟨HR2.out.alloc _, Blk.new _ _ _, HT2.out.plain (Only.alloc _ _ _), HG.out.only (Only.alloc [] _ _) (by simp), HO2.out.trans (Only.alloc _ _ _)⟩ ?_
  have hg2 : g < w2.heap.size := HG.out.1
  generalize w2.heap.size = nb at hrs2 hg2 ⊢
  rintro w3 ⟨hR3, hN3, hT3, hG3, hO3⟩
  have n0 := hN3.cell 0 rfl
  have n1 := hN3.cell 1 rfl
  have HR3 := Lib.hid hR3
  have HN3 := Lib.hid hN3
  have HT3 := Lib.hid hT3
  have HG3 := Lib.hid hG3
  have HO3 := Lib.hid hO3
  clear hR3 hN3 hT3 hG3 hO3 HR2 HT2 HO2 HG
  go_wp2_with fail
  refine (HSP.out _).mono ?_
  rintro e w4 ⟨rfl, hX4⟩
  have HR4 := Lib.hid (HR3.out.only hX4 (by simp))
  have HN4 := Lib.hid (HN3.out.only hX4 (by simp))
  have HT4 := Lib.hid (HT3.out.plain hX4)
  have HG4 := Lib.hid (HG3.out.only hX4 (by simp))
  have HO4 := Lib.hid (HO3.out.trans hX4)
  have n0 := HN4.out.cell 0 rfl
  have n1 := HN4.out.cell 1 rfl
  clear hX4 HR3 HN3 HT3 HG3 HO3 hme hen HSP
  obtain ⟨lo, hlo⟩ : ∃ lo, nn.lo = lo := ⟨_, rfl⟩
  have HLO := Lib.hid hlo
  rw [hlo]
  clear hlo
  by_cases hlk : k < lo
  · have HLK := Lib.hid hlk
    have hlf := trie_least (w := w4) HT4.out HWR.out.1 HWW.out.1
    rw [ndV_agg, HSV.out, HHN.out] at hlf
    have HLF := Lib.hid hlf
    clear hlf
    go_wp2_with fail
    refine HLF.out.mono ?_
    rintro e w5 ⟨rfl, hX5⟩
    have hR5 := HR4.out.only hX5 (by simp)
    have HR5 := Lib.hid hR5
    have HO5 := Lib.hid (HO4.out.trans hX5)
    have r0 := hR5.cell 0 rfl
    have r1 := hR5.cell 1 rfl
    have q0 := hR5.free 0
    have q1 := hR5.free 1
    obtain ⟨y1, hy1⟩ : ∃ y1, nn.least.1 = y1 := ⟨_, rfl⟩
    obtain ⟨y2, hy2⟩ : ∃ y2, nn.least.2 = y2 := ⟨_, rfl⟩
    have HY1 := Lib.hid hy1
    have HY2 := Lib.hid hy2
    rw [hy1, hy2]
    clear hX5 hR5 n0 n1 hy1 hy2 HLF hlk
    go_wp2_with fail
    have h5 := (HR5.out.set_same 0 (.int .i64 y1)).set_same 1 (.int .i64 y2)
    have o5 : Only [rb] w5 ((w5.setCell ⟨rb, 0, none⟩ (.int .i64 y1)).setCell ⟨rb, 1, none⟩ (.int .i64 y2)) := (Only.setCell _ (by simp) _).trans (Only.setCell _ (by simp) _)
    generalize ((w5.setCell ⟨rb, 0, none⟩ (.int .i64 y1)).setCell ⟨rb, 1, none⟩ (.int .i64 y2)) = w6 at h5 o5 ⊢
    have e0 : w6.cell? ⟨rb, 0, none⟩ = some (.int .i64 y1) := h5.cell 0 rfl
    have e1 : w6.cell? ⟨rb, 1, none⟩ = some (.int .i64 y2) := h5.cell 1 rfl
    refine bodyPost_ret (v := .tuple #[.agg #[.int .i64 y1, .int .i64 y2], .int .i64 0]) (by simp [results, Try.results29, go_sem, e0, e1]) rfl ?_
    have hfin : nextAt (k + 1) W nn = some nn.least := by
      have h1 : nextAt (k + 1) (W.drop W.length) nn = some nn.least := by
        rw [List.drop_length]
        unfold nextAt
        rw [if_pos (by have := HLK.out; have := HLO.out; omega)]
      exact nextAt_drop W W.length h1
    refine ⟨?_, HO5.out.past o5 (fun b hb => by simp at hb; right; have := HRB.out; omega)⟩
    first | rw [HFIN.out, hfin] | rw [hfin]
    rw [← HY1.out, ← HY2.out]
  · have hlb : decide (k < lo) = false := by simp; omega
    have HLK := Lib.hid hlk
    clear hlk
    obtain ⟨lw, hlw⟩ : ∃ lw, W.length = lw := ⟨_, rfl⟩
    have HLW := Lib.hid hlw
    rw [hlw] at hWl ⊢
    clear hlw
    go_upto_region 12 with fail
    go_loopg [15] lw (fun gk s15 wr => ∃ m : Nat, m ≤ lw ∧ m = gk ∧ s15 = .int .i64 ((m : Int) - 1) ∧ nextAt (k + 1) (W.drop m) nn = none ∧ wr = w4)
    case atStart =>
      refine ⟨lw, Nat.le_refl _, rfl, rfl, ?_, rfl⟩
      rw [← HLW.out, List.drop_length]
      unfold nextAt
      rw [if_neg (by have := HLK.out; have := HLO.out; omega)]
    case round =>
      obtain ⟨m, hmk, hgm, rfl, hnx, rfl⟩ := hrel
      have HK := Lib.hid hgm
      have HNX := Lib.hid hnx
      clear hgm hnx
      by_cases hm0 : 0 < m
      · obtain ⟨q, rfl⟩ : ∃ q, m = q + 1 := ⟨m - 1, by omega⟩
        obtain ⟨st, hst⟩ : ∃ st, W[q]? = some st := ⟨_, List.getElem?_eq_getElem (by rw [HLW.out]; omega)⟩
        have hstep := nextAt_step hst HNX.out
        have HSTEP := Lib.hid hstep
        have had0 : ad = some ⟨g, 0, none⟩ ∧ StepsAt wr S g W := by
          rcases HG4.out.2 with h | h
          · rw [h] at hst; simp at hst
          · exact h
        obtain ⟨had0, hsa⟩ := had0
        subst had0
        have hx := hsa.cells q st hst
        have hmem := List.mem_of_getElem? hst
        have HSW := Lib.hid (HWW.out.2 st hmem)
        have HSR := Lib.hid (HWR.out.2 st hmem)
        clear hst hstep hsa hmem hm0
        obtain ⟨si, sp, sf, sl, sr, sright⟩ := st
        have c0 : wr.cell? ⟨g, q * 7, none⟩ = some (.int .i64 sp) := hx 0 _ rfl
        have c1 : wr.cell? ⟨g, q * 7 + 1, none⟩ = some (.int .i64 sf) := hx 1 _ rfl
        have c2 : wr.cell? ⟨g, q * 7 + 2, none⟩ = some (.int .i64 (hnd S sl)) := hx 2 _ rfl
        have c3 : wr.cell? ⟨g, q * 7 + 3, none⟩ = some (.int .i64 (hnd S sr)) := hx 3 _ rfl
        have c4 : wr.cell? ⟨g, q * 7 + 4, none⟩ = some (.int .i64 ((Stp.whole ⟨si, sp, sf, sl, sr, sright⟩).cnt : Nat)) := hx 4 _ rfl
        have c6 : wr.cell? ⟨g, q * 7 + 6, none⟩ = some (.bool sright) := hx 6 _ rfl
        have hq1 : ((q + 1 : Nat) : Int) - 1 = q := by omega
        have hq2 : (0 : Int) ≤ q := by omega
        have hq3 : (q : Int) < lw := by omega
        rw [hq1]
        clear hq1 hx
        cases sright
        · have hrg := (fun w T => trie_right (w := w) (S := S) (tb := tb) (A := A) (n := n) (t := t) (fs := fs) (fa := fa) (i := si) (p := sp) (f := sf) (l := sl) (r := sr) T HSR.out HSW.out (hnd S sl) ((Stp.whole ⟨si, sp, sf, sl, sr, false⟩).cnt : Nat))
          obtain ⟨ty2, sv2, hsv2⟩ := shV_one S sr
          have hle := (fun w T => trie_least (w := w) (S := S) (tb := tb) (A := A) (n := n) (t := t) (fs := fs) (fa := fa) (x := sr) T HSR.out.2.2.2.2.2.2 HSW.out.2.2.2.2.2.1)
          simp only [ndV_agg, hsv2] at hrg hle
          generalize hvl : hnd S sl = vl at *
          generalize hvr : hnd S sr = vr at *
          generalize hvc : (((Stp.whole ⟨si, sp, sf, sl, sr, false⟩).cnt : Nat) : Int) = vc at *
          unfold innerV at hrg
          have HRG := Lib.hid hrg
          have HLS := Lib.hid hle
          have nf0 := HN4.out.free 0
          have nf1 := HN4.out.free 1
          have HN4a := HN4
          clear hrg hle hvl hvr hvc hsv2
          go_wp2_with fail
          refine (HRG.out _ HT4.out).mono ?_
          rintro e w5 ⟨rfl, hX5⟩
          have hN5 := HN4.out.only hX5 (by simp)
          have hR5 := HR4.out.only hX5 (by simp)
          have HN5 := Lib.hid hN5
          have HR5 := Lib.hid hR5
          have HT5 := Lib.hid (HT4.out.plain hX5)
          have HO5 := Lib.hid (HO4.out.trans hX5)
          have n0 := hN5.cell 0 rfl
          have n1 := hN5.cell 1 rfl
          have nf0 := hN5.free 0
          have nf1 := hN5.free 1
          clear hX5 hN5 hR5 c0 c1 c2 c3 c4 c6 HRG
          go_upto_region 18 with fail
          have hnr : nb ≠ rb := by omega
          have hX6 : Only [nb] w5 ((w5.setCell ⟨nb, 0, none⟩ (.int .i64 vr)).setCell ⟨nb, 1, none⟩ (.iface ty2 sv2)) := (Only.setCell _ (by simp) _).trans (Only.setCell _ (by simp) _)
          refine wp_name (fun w6 => Blk w6 rb #[.int .i64 0, .int .i64 0] 56 ∧ Blk w6 nb #[.int .i64 vr, .iface ty2 sv2] 125 ∧ TrAt w6 tb A n S t fs fa ∧ Only [] w w6) ⟨HR5.out.only hX6 (by simp; exact fun e => hnr e.symm), (HN5.out.set_same 0 (.int .i64 vr)).set_same 1 (.iface ty2 sv2), HT5.out.other hX6 (fun hm => by simp at hm; have := HT.out.lt.1; have := HRB.out; omega) (fun k hk hm => by simp at hm; subst hm; have := HT.out.lt.2 _ hk; have := HRB.out; omega), HO5.out.past hX6 (fun b hb => by simp at hb; right; have := HRB.out; omega)⟩ ?_
          rintro w6 ⟨hR6, hN6, hT6, hO6⟩
          have HR6 := Lib.hid hR6
          have HT6 := Lib.hid hT6
          have HO6 := Lib.hid hO6
          have n0 := hN6.cell 0 rfl
          have n1 := hN6.cell 1 rfl
          clear hR6 hN6 hT6 hO6 hX6 HN5 HR5 HT5 HO5 nf0 nf1
          go_wp2_with fail
          refine (HLS.out _ HT6.out).mono ?_
          rintro e w7 ⟨rfl, hX7⟩
          have hR7 := HR6.out.only hX7 (by simp)
          have HR7 := Lib.hid hR7
          have HO7 := Lib.hid (HO6.out.trans hX7)
          have r0 := hR7.cell 0 rfl
          have r1 := hR7.cell 1 rfl
          have q0 := hR7.free 0
          have q1 := hR7.free 1
          obtain ⟨y1, hy1⟩ : ∃ y1, sr.least.1 = y1 := ⟨_, rfl⟩
          obtain ⟨y2, hy2⟩ : ∃ y2, sr.least.2 = y2 := ⟨_, rfl⟩
          have HY1 := Lib.hid hy1
          have HY2 := Lib.hid hy2
          rw [hy1, hy2]
          clear hX7 hR7 n0 n1 hy1 hy2 HLS
          go_wp2_with fail
          have h5 := (HR7.out.set_same 0 (.int .i64 y1)).set_same 1 (.int .i64 y2)
          have o5 : Only [rb] w7 ((w7.setCell ⟨rb, 0, none⟩ (.int .i64 y1)).setCell ⟨rb, 1, none⟩ (.int .i64 y2)) := (Only.setCell _ (by simp) _).trans (Only.setCell _ (by simp) _)
          generalize ((w7.setCell ⟨rb, 0, none⟩ (.int .i64 y1)).setCell ⟨rb, 1, none⟩ (.int .i64 y2)) = w8 at h5 o5 ⊢
          have e0 : w8.cell? ⟨rb, 0, none⟩ = some (.int .i64 y1) := h5.cell 0 rfl
          have e1 : w8.cell? ⟨rb, 1, none⟩ = some (.int .i64 y2) := h5.cell 1 rfl
          refine bodyPost_ret (v := .tuple #[.agg #[.int .i64 y1, .int .i64 y2], .int .i64 0]) (by simp [results, Try.results29, go_sem, e0, e1]) rfl ?_
          have hfin : nextAt (k + 1) W nn = some sr.least := nextAt_drop W q (by rw [HSTEP.out]; rfl)
          refine ⟨?_, HO7.out.past o5 (fun b hb => by simp at hb; right; have := HRB.out; omega)⟩
          first | rw [HFIN.out, hfin] | rw [hfin]
          rw [← HY1.out, ← HY2.out]
        · go_wp2_with fail
          go_roundg q
          case measure => have := HK.out; omega
          case rel => exact ⟨q, by omega, rfl, by first | rfl | go_num, by rw [HSTEP.out]; rfl, rfl⟩
      · have hm00 : m = 0 := by omega
        subst hm00
        clear hm0
        have r0 := HR4.out.cell 0 rfl
        have r1 := HR4.out.cell 1 rfl
        have q0 := HR4.out.free 0
        have q1 := HR4.out.free 1
        go_wp2_with fail
        have h5 := (HR4.out.set_same 0 (.int .i64 0)).set_same 1 (.int .i64 0)
        have o5 : Only [rb] wr ((wr.setCell ⟨rb, 0, none⟩ (.int .i64 0)).setCell ⟨rb, 1, none⟩ (.int .i64 0)) := (Only.setCell _ (by simp) _).trans (Only.setCell _ (by simp) _)
        generalize ((wr.setCell ⟨rb, 0, none⟩ (.int .i64 0)).setCell ⟨rb, 1, none⟩ (.int .i64 0)) = w8 at h5 o5 ⊢
        have e0 : w8.cell? ⟨rb, 0, none⟩ = some (.int .i64 0) := h5.cell 0 rfl
        have e1 : w8.cell? ⟨rb, 1, none⟩ = some (.int .i64 0) := h5.cell 1 rfl
        refine bodyPost_ret (v := .tuple #[.agg #[.int .i64 0, .int .i64 0], .int .i64 122]) (by simp [results, Try.results29, go_sem, e0, e1]) rfl ?_
        have hfin := HNX.out
        rw [List.drop_zero] at hfin
        refine ⟨?_, HO4.out.past o5 (fun b hb => by simp at hb; right; have := HRB.out; omega)⟩
        first | rw [HFIN.out, hfin] | rw [hfin]

end Go.Proofs.Ytacegkjobfeiiaa

namespace Go.Proofs.Ytacegkjobfeiiaa
open Go.RowKit

def lcnt (s : Stp) : Nat := if s.right then s.l.cnt else 0
def lsum (W : List Stp) : Nat := (W.map lcnt).sum

theorem lsum_snoc (W : List Stp) (s : Stp) : lsum (W ++ [s]) = lsum W + lcnt s := by simp [lsum]

theorem rankAt_lsum (k : Int) (W : List Stp) (n : Tr) : rankAt k W n = lsum W + if n.hi < k then n.cnt else 0 := rankAt_sum k W n

theorem way_next {W : List Stp} {T n : Tr} {i : Nat} {s : Stp} (h : Way T W n) (hs : W[i]? = some s) : (∀ s', W[i + 1]? = some s' → s'.whole = s.into) ∧ (W[i + 1]? = none → n = s.into) := by
  obtain ⟨_, h2, _⟩ := way_at h hs
  refine ⟨fun s' h3 => ?_, fun h3 => ?_⟩
  · obtain ⟨h4, _, _⟩ := way_at h h3
    rw [h4] at h2
    exact h2.1.symm
  · have : W.drop (i + 1) = [] := by
      rw [List.drop_eq_nil_iff]
      exact List.getElem?_eq_none_iff.1 h3
    rw [this] at h2
    exact (show s.into = n from h2).symm

theorem lcnt_le {s : Stp} (h : s.whole.wf) : (lcnt s : Int) ≤ 4294967296 ∧ s.into.cnt + s.other.cnt = s.whole.cnt := by
  have h1 := wf_cnt_le h
  have e : s.into.cnt + s.other.cnt = s.whole.cnt := by
    unfold Stp.into Stp.other Stp.whole
    cases s.right
    · show s.l.cnt + s.r.cnt = _; rfl
    · show s.r.cnt + s.l.cnt = _; simp only [Tr.cnt]; omega
  refine ⟨?_, e⟩
  unfold lcnt
  have : s.whole.cnt = s.l.cnt + s.r.cnt := rfl
  split <;> omega

theorem lsum_le : ∀ {W : List Stp}, (∀ s, s ∈ W → s.whole.wf) → (lsum W : Int) ≤ 4294967296 * W.length
  | [], _ => by simp [lsum]
  | s :: W, h => by
    have h1 := lsum_le (W := W) (fun x hx => h x (by simp [hx]))
    have h2 := (lcnt_le (h s (by simp))).1
    have : lsum (s :: W) = lcnt s + lsum W := by simp [lsum]
    rw [this]
    simp only [List.length_cons]
    omega

set_option maxRecDepth 100000 in
set_option maxHeartbeats 4000000 in
theorem rank_some {A : PA} {n : Nat} {S : Nat → Sl} {t : Int} {fs : List Nat} {fa : Int} {tb : Nat} {x : Tr} {k : Int} {w : World} (T : TrAt w tb A n S t fs fa) (R : Rep n S x) (wf : x.wf) (hk : 0 ≤ k ∧ k ≤ 4294967295) :
    Calls Try.prog 27 #[.pointer (some ⟨tb, 0, none⟩), .pointer none, .int .i64 (hnd S x), .int .i64 k] w fun e w' => e = .returned (.tuple #[.int .i64 (rankAt k (down x k).1 (down x k).2 : Nat), .int .i64 0]) ∧ Only [] w w' := by
  have hka : isK k = true := by simp [isK]; omega
  have HKEY := Lib.hid (fun w => trie_key k w)
  rw [hka] at HKEY
  have hx0 : (hnd S x == 0) = false := by have := hnd_pos R; simp; omega
  have HDN := Lib.hid (fun w T => trie_down (w := w) (A := A) (n := n) (S := S) (t := t) (fs := fs) (fa := fa) (tb := tb) (k := k) T R wf)
  have HT := Lib.hid T
  have HR := Lib.hid R
  have HWF := Lib.hid wf
  clear T R wf hka hk
  generalize hhx : hnd S x = hx at *
  clear hhx
  go_enter Try.func27, Try.ntmps27
  go_wp2_with fail
  refine (HKEY.out _).mono ?_
  rintro e w1 ⟨rfl, rfl⟩
  go_wp2_with fail
  refine (HDN.out _ HT.out).mono ?_
  rintro e w2 ⟨way, rfl, hown, hX2⟩
  obtain ⟨ad, cap, rfl, hcap, hway⟩ := own_steps hown
  have hway2 : ∃ g, WayOk w2 S ad g (down x k).1 := by
    rcases hway with ⟨h1, h2⟩ | ⟨g, h1, h2, h3⟩
    · exact ⟨tb, Nat.lt_of_lt_of_le HT.out.lt.1 hX2.size, Or.inl h1⟩
    · exact ⟨g, h3.lt, Or.inr ⟨h1, h3⟩⟩
  obtain ⟨g, hg3⟩ := hway2
  obtain ⟨W, hW⟩ : ∃ W, (down x k).1 = W := ⟨_, rfl⟩
  obtain ⟨nn, hnn⟩ : ∃ nn, (down x k).2 = nn := ⟨_, rfl⟩
  have hWl : W.length ≤ 32 := by
    have h1 := down_len x k HWF.out
    have h2 := rk_le HWF.out
    rw [hW] at h1
    omega
  have HFIN := Lib.hid (show rankAt k (down x k).1 (down x k).2 = lsum W + if nn.hi < k then nn.cnt else 0 by rw [rankAt_lsum, hW, hnn])
  have hwy := down_way x k
  rw [hW, hnn] at hwy
  have hww := way_wf hwy HWF.out
  have HWY := Lib.hid hwy
  have HWW := Lib.hid hww
  rw [hW] at hg3
  have HG := Lib.hid hg3
  have HX2 := Lib.hid hX2
  obtain ⟨ty, sv, fm, hsv, hme, hen, hsp⟩ := span_meth S hww.1
  have hct := node_count S nn
  have HSP := Lib.hid hsp
  rw [hW, hnn]
  rw [ndV_agg, hsv] at hct ⊢
  have HCT := Lib.hid hct
  have HCB := Lib.hid (wf_cnt_le hww.1)
  clear hown hX2 hway hg3 hwy hww hW hnn hsv hsp hcap HDN hct
  obtain ⟨hn, hhn⟩ : ∃ hn, hnd S nn = hn := ⟨_, rfl⟩
  rw [hhn] at HCT ⊢
  clear hhn
  obtain ⟨lw, hlw⟩ : ∃ lw, W.length = lw := ⟨_, rfl⟩
  have HLW := Lib.hid hlw
  rw [hlw] at hWl ⊢
  clear hlw
  go_upto_region 9 with fail
  refine wp_name (fun w3 => Blk w3 w2.heap.size #[.int .i64 hn, .iface ty sv] 125 ∧ WayOk w3 S ad g W ∧ Only [] w w3) ⟨Blk.new _ _ _, HG.out.only (Only.alloc [] _ _) (by simp), HX2.out.trans (Only.alloc _ _ _)⟩ ?_
  generalize w2.heap.size = nb
  rintro w3 ⟨hN3, hG3, hO3⟩
  have HN3 := Lib.hid hN3
  have HG3 := Lib.hid hG3
  have HO3 := Lib.hid hO3
  clear hN3 hG3 hO3 HX2 HG
  go_wp2_with fail
  go_loopg [13, 42] lw (fun gk s13 s42 wr => ∃ i r : Nat, i ≤ lw ∧ lw - i = gk ∧ s42 = .int .i64 i ∧ s13 = .int .i64 r ∧ Hid (r = lsum (W.take i)) ∧ Blk wr nb #[.int .i64 hn, .iface ty sv] 125 ∧ WayOk wr S ad g W ∧ Only [] w wr)
  case atStart => exact ⟨0, 0, Nat.zero_le _, rfl, rfl, rfl, Lib.hid (by simp [lsum]), HN3.out, HG3.out, HO3.out⟩
  case round =>
    clear HN3 HG3 HO3
    obtain ⟨i, r, hi, hgi, rfl, rfl, HRS, hN, hG, hO⟩ := hrel
    have HK := Lib.hid hgi
    have HN := Lib.hid hN
    have HGr := Lib.hid hG
    have HO := Lib.hid hO
    have hrb : (r : Int) ≤ 137438953472 := by
      have h1 := lsum_le (W := W.take i) (fun s hs => HWW.out.2 s (List.mem_of_mem_take hs))
      rw [HRS.out]
      have h2 : (W.take i).length ≤ 32 := by rw [List.length_take]; omega
      omega
    clear hgi hG hO
    by_cases hlt : i < lw
    · obtain ⟨st, hst⟩ : ∃ st, W[i]? = some st := ⟨_, List.getElem?_eq_getElem (by rw [HLW.out]; omega)⟩
      have htk : W.take (i + 1) = W.take i ++ [st] := by
        have hl : i < W.length := by rw [HLW.out]; exact hlt
        rw [List.take_succ_eq_append_getElem hl]
        rw [List.getElem?_eq_getElem hl] at hst
        injection hst with hst
        rw [hst]
      have hls : lsum (W.take (i + 1)) = r + lcnt st := by rw [htk, lsum_snoc, ← HRS.out]
      have HLS := Lib.hid hls
      have hnext := way_next HWY.out hst
      have HNEXT := Lib.hid hnext
      have had0 : ad = some ⟨g, 0, none⟩ ∧ StepsAt wr S g W := by
        rcases HGr.out.2 with h | h
        · rw [h] at hst; simp at hst
        · exact h
      obtain ⟨had0, hsa⟩ := had0
      subst had0
      have hx := hsa.cells i st hst
      have HSA := Lib.hid hsa
      have HSW := Lib.hid (HWW.out.2 st (List.mem_of_getElem? hst))
      clear hst hsa htk hls hnext
      obtain ⟨si, sp, sf, sl, sr, sright⟩ := st
      have c0 : wr.cell? ⟨g, i * 7, none⟩ = some (.int .i64 sp) := hx 0 _ rfl
      have c1 : wr.cell? ⟨g, i * 7 + 1, none⟩ = some (.int .i64 sf) := hx 1 _ rfl
      have c2 : wr.cell? ⟨g, i * 7 + 2, none⟩ = some (.int .i64 (hnd S sl)) := hx 2 _ rfl
      have c3 : wr.cell? ⟨g, i * 7 + 3, none⟩ = some (.int .i64 (hnd S sr)) := hx 3 _ rfl
      have c4 : wr.cell? ⟨g, i * 7 + 4, none⟩ = some (.int .i64 ((Stp.whole ⟨si, sp, sf, sl, sr, sright⟩).cnt : Nat)) := hx 4 _ rfl
      have c5 : wr.cell? ⟨g, i * 7 + 5, none⟩ = some (.int .i64 (hnd S (Stp.whole ⟨si, sp, sf, sl, sr, sright⟩))) := hx 5 _ rfl
      have c6 : wr.cell? ⟨g, i * 7 + 6, none⟩ = some (.bool sright) := hx 6 _ rfl
      have hvcb := wf_cnt_le HSW.out
      generalize hvl : hnd S sl = vl at *
      generalize hvr : hnd S sr = vr at *
      generalize hvh : hnd S (Stp.whole ⟨si, sp, sf, sl, sr, sright⟩) = vh at *
      generalize hvc : (Stp.whole ⟨si, sp, sf, sl, sr, sright⟩).cnt = vc at *
      have HVC := Lib.hid hvc
      have hi1 : (i : Int) < lw := by omega
      have hi0 : (0 : Int) ≤ i := by omega
      clear hx hvl hvr hvh hvc hN
      go_upto_region 12 with fail
      refine wp_name (fun w4 => Blk w4 nb #[.int .i64 hn, .iface ty sv] 125 ∧ Blk w4 wr.heap.size #[.int .i64 sp, .int .i64 sf, .int .i64 vl, .int .i64 vr, .int .i64 vc, .int .i64 vh, .bool sright] 137 ∧ StepsAt w4 S g W ∧ Only [] w w4) ⟨HN.out.alloc _, Blk.new _ _ _, HSA.out.only (Only.alloc [] _ _) (by simp), HO.out.trans (Only.alloc _ _ _)⟩ ?_
      generalize wr.heap.size = sb
      clear HN HSA HO HGr c0 c1 c2 c3 c4 c5 c6
      rintro w4 ⟨hN4, hB4, hS4, hO4⟩
      have HN4 := Lib.hid hN4
      have HB4 := Lib.hid hB4
      have HS4 := Lib.hid hS4
      have HO4 := Lib.hid hO4
      have b6 := hB4.cell 6 rfl
      have n0 := hN4.cell 0 rfl
      have n1 := hN4.cell 1 rfl
      clear hN4 hB4 hS4 hO4
      cases sright
      · go_wp2_with fail
        go_roundg (lw - (i + 1))
        case measure => have := HK.out; omega
        case rel => exact ⟨i + 1, r, by omega, rfl, by first | rfl | go_num, rfl, Lib.hid (by rw [HLS.out]; rfl), HN4.out, ⟨HS4.out.lt, Or.inr ⟨rfl, HS4.out⟩⟩, HO4.out⟩
      · go_wp2_with fail
        refine (HCT.out _).mono ?_
        rintro e w5 ⟨rfl, hX5⟩
        have HN5 := Lib.hid (HN4.out.only hX5 (by simp))
        have hB5 := HB4.out.only hX5 (by simp)
        have HS5 := Lib.hid (HS4.out.only hX5 (by simp))
        have HO5 := Lib.hid (HO4.out.trans hX5)
        have b4 := hB5.cell 4 rfl
        clear hX5 hB5 b6 n0 n1 HN4 HB4 HS4 HO4
        have hvs : vc = sl.cnt + sr.cnt := HVC.out.symm
        have hi2 : (0 : Int) ≤ (i : Int) + 1 := by omega
        have htn : ((i : Int) + 1).toNat = i + 1 := by omega
        have hvc0 : (0 : Int) ≤ vc := by omega
        by_cases hlt2 : i + 1 < lw
        · obtain ⟨st2, hst2⟩ : ∃ st2, W[i + 1]? = some st2 := ⟨_, List.getElem?_eq_getElem (by rw [HLW.out]; omega)⟩
          have hw2 := HNEXT.out.1 st2 hst2
          have hc2 : st2.whole.cnt = sr.cnt := by rw [hw2]; rfl
          have d4 : w5.cell? ⟨g, (i + 1) * 7 + 4, none⟩ = some (.int .i64 (st2.whole.cnt : Nat)) := HS5.out.cells (i + 1) st2 hst2 4 _ rfl
          rw [hc2] at d4
          have hi3 : (i : Int) + 1 < lw := by omega
          have HVS := Lib.hid hvs
          obtain ⟨rc, hrc⟩ : ∃ rc, sr.cnt = rc := ⟨_, rfl⟩
          have HRC := Lib.hid hrc
          rw [hrc] at d4 hvs
          have hb1 : (0 : Int) ≤ rc ∧ (rc : Int) ≤ vc := by omega
          obtain ⟨hb1, hb2⟩ := hb1
          clear hst2 hw2 hc2 hvs hrc
          go_wp2_with fail
          go_roundg (lw - (i + 1))
          case measure => have := HK.out; omega
          case rel =>
            have h1 := HVS.out
            have h2 := HRC.out
            exact ⟨i + 1, r + sl.cnt, by omega, rfl, by first | rfl | go_num, by first | rfl | (congr 1; omega), Lib.hid (by rw [HLS.out]; rfl), HN5.out, ⟨HS5.out.lt, Or.inr ⟨rfl, HS5.out⟩⟩, HO5.out⟩
        · have hnone : W[i + 1]? = none := List.getElem?_eq_none_iff.2 (by rw [HLW.out]; omega)
          have hnn := HNEXT.out.2 hnone
          have hc2 : nn.cnt = sr.cnt := by rw [hnn]; rfl
          have hi3 : decide ((i : Int) + 1 < lw) = false := by simp; omega
          have HVS := Lib.hid hvs
          have HC2 := Lib.hid hc2
          obtain ⟨rc, hrc⟩ : ∃ rc, nn.cnt = rc := ⟨_, rfl⟩
          have HRC := Lib.hid hrc
          have hb1 : (0 : Int) ≤ rc ∧ (rc : Int) ≤ vc := by omega
          obtain ⟨hb1, hb2⟩ := hb1
          rw [hrc]
          clear hnone hnn hc2 hvs hrc
          go_wp2_with fail
          go_roundg (lw - (i + 1))
          case measure => have := HK.out; omega
          case rel =>
            have h1 := HVS.out
            have h2 := HRC.out
            have h3 := HC2.out
            exact ⟨i + 1, r + sl.cnt, by omega, rfl, by first | rfl | go_num, by first | rfl | (congr 1; omega), Lib.hid (by rw [HLS.out]; rfl), HN5.out, ⟨HS5.out.lt, Or.inr ⟨rfl, HS5.out⟩⟩, HO5.out⟩
    · have hil : i = lw := by omega
      subst hil
      clear hlt
      have HRS2 : Hid (r = lsum W) := by
        have h1 := HRS.out
        rw [← HLW.out, List.take_length] at h1
        exact h1
      have n0 := hN.cell 0 rfl
      have n1 := hN.cell 1 rfl
      clear hN HRS
      go_wp2_with fail
      refine (HSP.out _).mono ?_
      rintro e w4 ⟨rfl, hX4⟩
      have hN4 := HN.out.only hX4 (by simp)
      have HO4 := Lib.hid (HO.out.trans hX4)
      have n0 := hN4.cell 0 rfl
      have n1 := hN4.cell 1 rfl
      obtain ⟨hh, hhe⟩ : ∃ hh, nn.hi = hh := ⟨_, rfl⟩
      have HHE := Lib.hid hhe
      have hcb := HCB.out
      obtain ⟨nc, hnc⟩ : ∃ nc, nn.cnt = nc := ⟨_, rfl⟩
      have HNC := Lib.hid hnc
      rw [hnc] at HCT hcb
      rw [hhe]
      clear hX4 hN4 hhe hnc hme hen HN HO
      by_cases hhk : hh < k
      · have HHK := Lib.hid hhk
        go_wp2_with fail
        refine (HCT.out _).mono ?_
        rintro e w5 ⟨rfl, hX5⟩
        have HO5 := Lib.hid (HO4.out.trans hX5)
        clear hX5 n0 n1
        go_wp2_with fail
        go_ret2
        refine ⟨?_, HO5.out⟩
        have hr := HFIN.out
        have h1 := HRS2.out
        have h2 := HNC.out
        rw [HHE.out, if_pos HHK.out, ← h1, h2] at hr
        show Ending.returned (.tuple #[.int .i64 ((r : Int) + (nc : Int)), .int .i64 0]) = _
        first | rw [hr, Int.natCast_add] | (rw [HHE.out, if_pos HHK.out]; simp)
      · have HHK := Lib.hid hhk
        have hhd : decide (hh < k) = false := by simp; omega
        clear hhk
        go_wp2_with fail
        go_ret2
        refine ⟨?_, HO4.out⟩
        have hr := HFIN.out
        have h1 := HRS2.out
        rw [HHE.out, if_neg (by have := HHK.out; omega), ← h1, Nat.add_zero] at hr
        show Ending.returned (.tuple #[.int .i64 (r : Int), .int .i64 0]) = _
        rw [hr]

end Go.Proofs.Ytacegkjobfeiiaa

namespace Go.Proofs.Ytacegkjobfeiiaa
open Go.RowKit

def SelRel (S : Nat → Sl) (n : Nat) (x : Tr) (i : Nat) (w : World) (rb nb : Nat) (g : Nat) (s3 s11 : Value) (wr : World) : Prop :=
  ∃ (y : Tr) (j : Nat), s11 = .int .i64 0 ∧ s3 = .int .i64 j ∧ j < y.cnt ∧ y.cnt = g ∧ y.sel j = x.sel i ∧ y.wf ∧ Rep n S y ∧ Blk wr nb #[.int .i64 (hnd S y), shV S y] 125 ∧ Blk wr rb #[.int .i64 0, .int .i64 0] 56 ∧ Only [] w wr

set_option maxRecDepth 100000 in
set_option maxHeartbeats 4000000 in
theorem select_some {A : PA} {n : Nat} {S : Nat → Sl} {t : Int} {fs : List Nat} {fa : Int} {tb : Nat} {x : Tr} {i : Nat} {w : World} (T : TrAt w tb A n S t fs fa) (R : Rep n S x) (wf : x.wf) (hi : i < x.cnt) :
    Calls Try.prog 28 #[.pointer (some ⟨tb, 0, none⟩), .pointer none, .int .i64 (hnd S x), .int .i64 i] w fun e w' => e = .returned (.tuple #[.agg #[.int .i64 (x.sel i).1, .int .i64 (x.sel i).2], .int .i64 0]) ∧ Only [] w w' := by
  have hpz := pair_zero
  have hx0 : (hnd S x == 0) = false := by have := hnd_pos R; simp; omega
  have hrt := (fun w T => trie_root (w := w) (S := S) (tb := tb) (A := A) (n := n) (t := t) (fs := fs) (fa := fa) T R wf)
  have hct := node_count S x
  obtain ⟨ty0, sv0, hsv0⟩ := shV_one S x
  simp only [ndV_agg, hsv0] at hrt hct
  have HRT := Lib.hid hrt
  have HCT := Lib.hid hct
  have HSV := Lib.hid hsv0
  have HT := Lib.hid T
  have HR := Lib.hid R
  have HWF := Lib.hid wf
  have HI := Lib.hid hi
  have hi0 : decide ((i : Int) < 0) = false := by simp
  have hi1 : decide ((x.cnt : Int) ≤ (i : Int)) = false := by simp; omega
  have hi2 : decide (x.cnt ≤ i) = false := by simp; omega
  obtain ⟨xc, hxc⟩ : ∃ xc, x.cnt = xc := ⟨_, rfl⟩
  have HXC := Lib.hid hxc
  rw [hxc] at HCT hi1 hi2
  clear T R wf hrt hct hsv0 hi hxc
  generalize hh0 : hnd S x = h0 at *
  have HH0 := Lib.hid hh0
  clear hh0
  go_enter Try.func28, Try.ntmps28
  go_wp2_with fail
  refine calls_name (fun w1 => Blk w1 w.heap.size #[.int .i64 0, .int .i64 0] 56 ∧ TrAt w1 tb A n S t fs fa ∧ Only [] w w1) ⟨Blk.new _ _ _, HT.out.plain (Only.alloc _ _ _), Only.alloc _ _ _⟩ ?_
  obtain ⟨rb, hrb⟩ : ∃ rb, w.heap.size = rb := ⟨_, rfl⟩
  have HRB := Lib.hid hrb
  rw [hrb]
  clear hrb
  rintro w1 ⟨hR1, hT1, hO1⟩
  refine (HRT.out w1 hT1).mono ?_
  rintro e w2 ⟨rfl, hX2⟩
  have HR2 := Lib.hid (hR1.only hX2 (by simp))
  have HO2 := Lib.hid (hO1.trans hX2)
  clear hR1 hT1 hO1 hX2 HRT
  go_upto_region 4 with fail
  refine wp_name (fun w3 => Blk w3 rb #[.int .i64 0, .int .i64 0] 56 ∧ Blk w3 w2.heap.size #[.int .i64 h0, .iface ty0 sv0] 125 ∧ Only [] w w3) ⟨HR2.out.alloc _, Blk.new _ _ _, HO2.out.trans (Only.alloc _ _ _)⟩ ?_
  have hrn : rb < w2.heap.size := HR2.out.lt
  generalize w2.heap.size = nb at hrn ⊢
  rintro w3 ⟨hR3, hN3, hO3⟩
  have n0 := hN3.cell 0 rfl
  have n1 := hN3.cell 1 rfl
  have HR3 := Lib.hid hR3
  have HN3 := Lib.hid hN3
  have HO3 := Lib.hid hO3
  have HNB : Hid (w.heap.size ≤ nb) := Lib.hid (by have := HRB.out; omega)
  clear hR3 hN3 hO3 HR2 HO2
  go_wp2_with fail
  refine (HCT.out _).mono ?_
  rintro e w4 ⟨rfl, hX4⟩
  have HR4 := Lib.hid (HR3.out.only hX4 (by simp))
  have HN4 := Lib.hid (HN3.out.only hX4 (by simp))
  have HO4 := Lib.hid (HO3.out.trans hX4)
  clear hX4 n0 n1 HR3 HN3 HO3 HCT
  go_wp2_with fail
  go_loopg [3, 11] xc (SelRel S n x i w rb nb)
  case atStart => exact ⟨x, i, rfl, rfl, HI.out, HXC.out, rfl, HWF.out, HR.out, by rw [HH0.out, HSV.out]; exact HN4.out, HR4.out, HO4.out⟩
  case round =>
    clear HR4 HN4 HO4 hi0 hi1 hi2
    obtain ⟨y, j, rfl, rfl, hj, hg, hse, hwf, hrep, hN, hRB, hO⟩ := hrel
    have HG := Lib.hid hg
    have HJ := Lib.hid hj
    have HSE := Lib.hid hse
    have HRr := Lib.hid hRB
    have HO := Lib.hid hO
    cases y with
    | leaf ii kk vv =>
      have hta := assertL_leaf kk vv
      have n1 : wr.cell? ⟨nb, 1, none⟩ = some (.iface 129 (.agg #[.int .i64 kk, .int .i64 vv])) := hN.cell 1 rfl
      clear hj hg hse hwf hrep hRB hO hN
      go_upto_region 10 with fail
      refine wp_name (fun w2 => Blk w2 rb #[.int .i64 0, .int .i64 0] 56 ∧ Blk w2 wr.heap.size #[.int .i64 kk, .int .i64 vv] 129 ∧ Only [] w w2) ⟨HRr.out.alloc _, Blk.new _ _ _, HO.out.trans (Only.alloc _ _ _)⟩ ?_
      generalize wr.heap.size = lb
      clear hta n1
      rintro w5 ⟨hR2, hL2, hO2⟩
      have l0 := hL2.cell 0 rfl
      have l1 := hL2.cell 1 rfl
      have r0 := hR2.cell 0 rfl
      have r1 := hR2.cell 1 rfl
      have q0 := hR2.free 0
      have q1 := hR2.free 1
      have HO2 := Lib.hid hO2
      have HR2 := Lib.hid hR2
      clear hR2 hL2 hO2
      go_wp2_with fail
      have h5 := (HR2.out.set_same 0 (.int .i64 kk)).set_same 1 (.int .i64 vv)
      have o5 : Only [rb] w5 ((w5.setCell ⟨rb, 0, none⟩ (.int .i64 kk)).setCell ⟨rb, 1, none⟩ (.int .i64 vv)) := (Only.setCell _ (by simp) _).trans (Only.setCell _ (by simp) _)
      generalize ((w5.setCell ⟨rb, 0, none⟩ (.int .i64 kk)).setCell ⟨rb, 1, none⟩ (.int .i64 vv)) = w6 at h5 o5 ⊢
      have e0 : w6.cell? ⟨rb, 0, none⟩ = some (.int .i64 kk) := h5.cell 0 rfl
      have e1 : w6.cell? ⟨rb, 1, none⟩ = some (.int .i64 vv) := h5.cell 1 rfl
      refine bodyPost_ret (v := .tuple #[.agg #[.int .i64 kk, .int .i64 vv], .int .i64 0]) (by simp [results, Try.results28, go_sem, e0, e1]) rfl ⟨?_, ?_⟩
      · rw [← HSE.out]; rfl
      · exact HO2.out.past o5 (fun b hb => by simp at hb; right; have := HRB.out; omega)
    | node ii p f l r =>
      have HREP := Lib.hid hrep
      have HWF1 := Lib.hid hwf
      have hta : ∀ w, (Instr.typeAssert (.iface 135 (.agg #[.int .i64 p, .int .i64 f, .int .i64 (hnd S l), .int .i64 (hnd S r), .int .i64 ((Tr.node ii p f l r).cnt : Nat)])) 123 129 true).run Try.prog w = _ := fun w => assertL_inner p f (hnd S l) (hnd S r) ((Tr.node ii p f l r).cnt : Nat) w
      have htb := assert_inner p f (hnd S l) (hnd S r) ((Tr.node ii p f l r).cnt : Nat)
      have n1 : wr.cell? ⟨nb, 1, none⟩ = some (.iface 135 (.agg #[.int .i64 p, .int .i64 f, .int .i64 (hnd S l), .int .i64 (hnd S r), .int .i64 ((Tr.node ii p f l r).cnt : Nat)])) := hN.cell 1 rfl
      have HN : Hid (∃ z0 z1, Blk wr nb #[z0, z1] 125) := Lib.hid ⟨_, _, hN⟩
      have hlf := (fun w T => trie_left (w := w) (S := S) (tb := tb) (A := A) (n := n) (t := t) (fs := fs) (fa := fa) T HREP.out HWF1.out (hnd S r) ((Tr.node ii p f l r).cnt : Nat))
      have hrg := (fun w T => trie_right (w := w) (S := S) (tb := tb) (A := A) (n := n) (t := t) (fs := fs) (fa := fa) T HREP.out HWF1.out (hnd S l) ((Tr.node ii p f l r).cnt : Nat))
      have hct := node_count S l
      obtain ⟨ty, sv, hsv⟩ := shV_one S l
      obtain ⟨ty2, sv2, hsv2⟩ := shV_one S r
      simp only [ndV_agg, hsv] at hlf hct
      simp only [ndV_agg, hsv2] at hrg
      have HSV1 := Lib.hid hsv
      have HSV2 := Lib.hid hsv2
      have HLF := Lib.hid hlf
      have HRG := Lib.hid hrg
      have HCT := Lib.hid hct
      clear hj hg hse hwf hrep hRB hO hN hlf hrg hct hsv hsv2
      unfold innerV at HLF HRG
      generalize hvl : hnd S l = vl at *
      generalize hvr : hnd S r = vr at *
      generalize hvc : (((Tr.node ii p f l r).cnt : Nat) : Int) = vc at *
      have HVL := Lib.hid hvl
      have HVR := Lib.hid hvr
      clear hvl hvr hvc
      obtain ⟨lc, hlc⟩ : ∃ lc, l.cnt = lc := ⟨_, rfl⟩
      have HLC := Lib.hid hlc
      rw [hlc] at HCT
      clear hlc
      go_upto_region 13 with fail
      refine wp_name (fun w2 => Blk w2 rb #[.int .i64 0, .int .i64 0] 56 ∧ Blk w2 wr.heap.size #[.int .i64 p, .int .i64 f, .int .i64 vl, .int .i64 vr, .int .i64 vc] 135 ∧ (∃ z0 z1, Blk w2 nb #[z0, z1] 125) ∧ Only [] w w2) ⟨HRr.out.alloc _, Blk.new _ _ _, by obtain ⟨z0, z1, h⟩ := HN.out; exact ⟨z0, z1, h.alloc _⟩, HO.out.trans (Only.alloc _ _ _)⟩ ?_
      have hnbw : nb < wr.heap.size := by obtain ⟨z0, z1, h⟩ := HN.out; exact h.lt
      clear hta htb n1 HN HRr HO
      generalize wr.heap.size = ib at hnbw ⊢
      rintro w2 ⟨hR2, hI2, ⟨z0, z1, hN2⟩, hO2⟩
      have d0 := hI2.cell 0 rfl
      have d1 := hI2.cell 1 rfl
      have d2 := hI2.cell 2 rfl
      have d3 := hI2.cell 3 rfl
      have d4 := hI2.cell 4 rfl
      have HI2 := Lib.hid hI2
      have HR2 := Lib.hid hR2
      have HN2 := Lib.hid hN2
      have HO2 := Lib.hid hO2
      clear hR2 hI2 hN2 hO2
      go_wp2_with fail
      refine (HLF.out _ (HT.out.plain HO2.out)).mono ?_
      rintro e w3 ⟨rfl, hX3⟩
      have HR3 := Lib.hid (HR2.out.only hX3 (by simp))
      have hN3 := HN2.out.only hX3 (by simp)
      have HI3 := Lib.hid (HI2.out.only hX3 (by simp))
      have HN3 := Lib.hid hN3
      have HO3 := Lib.hid (HO2.out.trans hX3)
      have k0 := hN3.cell 0 rfl
      have k1 := hN3.cell 1 rfl
      have f0 := hN3.free 0
      have f1 := hN3.free 1
      clear hX3 hN3 d0 d1 d2 d3 d4 HR2 HN2 HO2 HLF HI2
      go_upto_region 14 with fail
      have hX4 : Only [nb] w3 ((w3.setCell ⟨nb, 0, none⟩ (.int .i64 vl)).setCell ⟨nb, 1, none⟩ (.iface ty sv)) := (Only.setCell _ (by simp) _).trans (Only.setCell _ (by simp) _)
      refine wp_name (fun w4 => Blk w4 rb #[.int .i64 0, .int .i64 0] 56 ∧ Blk w4 ib #[.int .i64 p, .int .i64 f, .int .i64 vl, .int .i64 vr, .int .i64 vc] 135 ∧ Blk w4 nb #[.int .i64 vl, .iface ty sv] 125 ∧ Only [] w w4) ⟨HR3.out.only hX4 (by simp; omega), HI3.out.only hX4 (by simp; omega), (HN3.out.set_same 0 (.int .i64 vl)).set_same 1 (.iface ty sv), HO3.out.past hX4 (fun b hb => by simp at hb; right; have := HNB.out; omega)⟩ ?_
      clear k0 k1 f0 f1 hX4 HR3 HI3 HN3 HO3
      rintro w4 ⟨hR4, hI4, hN4, hO4⟩
      have n0 := hN4.cell 0 rfl
      have n1 := hN4.cell 1 rfl
      have HR4 := Lib.hid hR4
      have HI4 := Lib.hid hI4
      have HN4 := Lib.hid hN4
      have HO4 := Lib.hid hO4
      clear hR4 hI4 hN4 hO4
      go_wp2_with fail
      refine (HCT.out _).mono ?_
      rintro e w5 ⟨rfl, hX5⟩
      have hI5 := HI4.out.only hX5 (by simp)
      have hN5 := HN4.out.only hX5 (by simp)
      have HR5 := Lib.hid (HR4.out.only hX5 (by simp))
      have HI5 := Lib.hid hI5
      have HN5 := Lib.hid hN5
      have HO5 := Lib.hid (HO4.out.trans hX5)
      have n0 := hN5.cell 0 rfl
      have n1 := hN5.cell 1 rfl
      clear hX5 hI5 hN5 HR4 HI4 HN4 HO4
      have hlb : (lc : Int) ≤ 4294967296 := by
        have h1 := HWF1.out
        obtain ⟨_, _, _, _, wl, _⟩ := h1
        have := wf_cnt_le wl
        rw [HLC.out] at this
        exact this
      have HLB := Lib.hid hlb
      clear hlb
      by_cases hlj : lc ≤ j
      · have HLJ := Lib.hid hlj
        have hjb : (j : Int) ≤ 8589934592 := by
          have h1 := HJ.out
          have h2 := wf_cnt_le HWF1.out
          omega
        go_wp2_with fail
        refine (HCT.out _).mono ?_
        rintro e w6 ⟨rfl, hX6⟩
        have hI6 := HI5.out.only hX6 (by simp)
        have hN6 := HN5.out.only hX6 (by simp)
        have HR6 := Lib.hid (HR5.out.only hX6 (by simp))
        have HN6 := Lib.hid hN6
        have HO6 := Lib.hid (HO5.out.trans hX6)
        have d0 := hI6.cell 0 rfl
        have d1 := hI6.cell 1 rfl
        have d2 := hI6.cell 2 rfl
        have d3 := hI6.cell 3 rfl
        have d4 := hI6.cell 4 rfl
        clear hX6 hI6 hN6 n0 n1 HR5 HI5 HN5 HO5
        go_wp2_with fail
        refine (HRG.out _ (HT.out.plain HO6.out)).mono ?_
        rintro e w7 ⟨rfl, hX7⟩
        have hN7 := HN6.out.only hX7 (by simp)
        have HR7 := Lib.hid (HR6.out.only hX7 (by simp))
        have HN7 := Lib.hid hN7
        have HO7 := Lib.hid (HO6.out.trans hX7)
        have k0 := hN7.cell 0 rfl
        have k1 := hN7.cell 1 rfl
        have f0 := hN7.free 0
        have f1 := hN7.free 1
        clear hX7 hN7 d0 d1 d2 d3 d4 HR6 HN6 HO6 HRG HCT
        go_wp2_with fail
        go_roundg r.cnt
        case measure => have := HG.out; simp only [Tr.cnt] at this; have := Tr.cnt_pos l; omega
        case rel =>
          have hX8 : Only [nb] w7 ((w7.setCell ⟨nb, 0, none⟩ (.int .i64 vr)).setCell ⟨nb, 1, none⟩ (.iface ty2 sv2)) := (Only.setCell _ (by simp) _).trans (Only.setCell _ (by simp) _)
          have h1 := HJ.out
          have h2 := HLC.out
          have h3 := HLJ.out
          simp only [Tr.cnt] at h1
          have hse : (if l.cnt ≤ j then r.sel (j - l.cnt) else l.sel j) = x.sel i := HSE.out
          rw [if_pos (by omega), h2] at hse
          refine ⟨r, j - lc, rfl, by congr 1; omega, by omega, rfl, hse, HWF1.out.2.2.2.2.2.1, HREP.out.2.2.2.2.2.2, ?_, HR7.out.only hX8 (by simp; omega), HO7.out.past hX8 (fun b hb => by simp at hb; right; have := HNB.out; omega)⟩
          rw [HVR.out, HSV2.out]
          exact (HN7.out.set_same 0 (.int .i64 vr)).set_same 1 (.iface ty2 sv2)
      · have HLJ := Lib.hid hlj
        have hld : decide (lc ≤ j) = false := by simp; omega
        have hld2 : decide ((lc : Int) ≤ (j : Int)) = false := by simp; omega
        clear hlj n0 n1
        go_wp2_with fail
        go_roundg l.cnt
        case measure => have := HG.out; simp only [Tr.cnt] at this; have := Tr.cnt_pos r; omega
        case rel =>
          have h2 := HLC.out
          have h3 := HLJ.out
          have hse : (if l.cnt ≤ j then r.sel (j - l.cnt) else l.sel j) = x.sel i := HSE.out
          rw [if_neg (by omega)] at hse
          refine ⟨l, j, rfl, rfl, by omega, rfl, hse, HWF1.out.2.2.2.2.1, HREP.out.2.2.2.2.2.1, ?_, HR5.out, HO5.out⟩
          rw [HVL.out, HSV1.out]
          exact HN5.out

end Go.Proofs.Ytacegkjobfeiiaa

namespace Go.Proofs.Ytacegkjobfeiiaa
open Go.RowKit

theorem num_12 (e0 : Int) (w : World) : Calls Try.prog 8 #[.int .i64 e0] w fun e w' => e = .returned (.int .i64 e0) ∧ w = w' := by
  go_enter Try.func8, Try.ntmps8
  go_wp2
  go_ret
  exact ⟨rfl, rfl⟩

theorem three_new (w : World) (a b c : Array Value) (ta tb tc : TypeId) :
    Blk (((w.alloc (.cells a ta)).alloc (.cells b tb)).alloc (.cells c tc)).drew w.heap.size a ta ∧ Blk (((w.alloc (.cells a ta)).alloc (.cells b tb)).alloc (.cells c tc)).drew (w.heap.size + 1) b tb ∧
    Blk (((w.alloc (.cells a ta)).alloc (.cells b tb)).alloc (.cells c tc)).drew (w.heap.size + 1 + 1) c tc ∧ Only [] w (((w.alloc (.cells a ta)).alloc (.cells b tb)).alloc (.cells c tc)).drew := by
  refine ⟨(((Blk.new w a ta).alloc _).alloc _).drew, ?_, ?_, (((Only.alloc [] w _).trans (Only.alloc [] _ _)).trans (Only.alloc [] _ _)).trans (Only.drew _ _)⟩
  · have := ((Blk.new (w.alloc (.cells a ta)) b tb).alloc (.cells c tc)).drew
    simpa using this
  · have := (Blk.new ((w.alloc (.cells a ta)).alloc (.cells b tb)) c tc).drew
    simpa using this

theorem own_slice_any {w : World} {base size : Nat} {e : TypeId} {v : Value} {n : Nat} {xs : List Value} (h : w.ownsRow base e size v n xs) : ∃ ad cap, v = .slice ad n cap := by
  rcases h.2 with ⟨rfl, h1⟩ | ⟨g, cap, _, rfl, _⟩
  · exact ⟨_, _, by rw [h1]⟩
  · exact ⟨_, _, rfl⟩

theorem info_change : (Try.prog.info? 47).map (fun i => (i.zero, i.size, i.bytes)) = some (some (.agg #[.int .i64 0, .int .i64 0, .int .i64 0, .bool false, .bool false]), 5, 32) := by kernel_rfl

/-- A change's five cells. -/
def chgC (c : Ch2) : List Value := [.int .i64 c.key, .int .i64 c.old, .int .i64 c.new, .bool c.had, .bool c.has]
def chgsC (L : List Ch2) : List Value := L.flatMap chgC

theorem chgsC_snoc (L : List Ch2) (c : Ch2) : chgsC (L ++ [c]) = chgsC L ++ chgC c := by simp [chgsC]
theorem chgsC_length (L : List Ch2) : (chgsC L).length = L.length * 5 := by
  induction L with
  | nil => rfl
  | cons s L ih => simp only [chgsC, List.flatMap_cons, List.length_append, List.length_cons] at *; rw [ih]; simp [chgC]; omega

/-- given's variables: nothing has ended, all is well, L has come. -/
structure Got (w : World) (eb wb xb ob nb base : Nat) (v : Value) (L : List Ch2) : Prop where
  e : Blk w eb #[.bool false] 4
  wl : Blk w wb #[.bool true] 4
  x : Blk w xb #[.int .i64 0] 3
  o : Blk w ob #[v] 43
  n : Blk w nb #[.int .i64 (-1)] 3
  own : w.ownsRow base 47 5 v L.length (chgsC L)
  apart : eb ≠ ob ∧ eb ≠ nb ∧ ob ≠ nb ∧ eb ≠ wb ∧ eb ≠ xb ∧ ob ≠ wb ∧ ob ≠ xb
  out : ∀ b, v.ownBlock = some b → b ≠ eb ∧ b ≠ wb ∧ b ≠ xb ∧ b ≠ ob ∧ b ≠ nb

def gotB (eb wb xb ob nb : Nat) (v : Value) : List Nat := eb :: wb :: xb :: ob :: nb :: v.ownBlock.toList

theorem Got.only {w w' : World} {eb wb xb ob nb base : Nat} {v : Value} {L : List Ch2} {X : List Nat} (h : Got w eb wb xb ob nb base v L) (o : Only X w w') (hn : ∀ b, b ∈ gotB eb wb xb ob nb v → b ∉ X) : Got w' eb wb xb ob nb base v L :=
  ⟨h.e.only o (hn _ (by simp [gotB])), h.wl.only o (hn _ (by simp [gotB])), h.x.only o (hn _ (by simp [gotB])), h.o.only o (hn _ (by simp [gotB])), h.n.only o (hn _ (by simp [gotB])), ownsRow_only h.own o (fun b hb => hn b (by simp [gotB, hb])), h.apart, h.out⟩

theorem Got.lt {w : World} {eb wb xb ob nb base : Nat} {v : Value} {L : List Ch2} (h : Got w eb wb xb ob nb base v L) : ∀ b, b ∈ gotB eb wb xb ob nb v → b < w.heap.size := by
  intro b hb
  simp only [gotB, List.mem_cons] at hb
  rcases hb with rfl | rfl | rfl | rfl | rfl | hb
  · exact h.e.lt
  · exact h.wl.lt
  · exact h.x.lt
  · exact h.o.lt
  · exact h.n.lt
  · exact (h.own.lt b (by simpa using hb)).2

theorem cells_five (w : World) (a b c d e : Value) (T : TypeId) : ∀ j u, [a, b, c, d, e][j]? = some u → (w.alloc (.cells #[a, b, c, d, e] T)).cell? ((⟨w.heap.size, 0, none⟩ : Addr).add j) = some u := by
  intro j u hu
  rw [Addr.add_lit]
  have := (Blk.new w #[a, b, c, d, e] T).cell j (v := u) (by simpa using hu)
  simpa using this

/-- One change more has come. -/
def GotPost (eb wb xb ob nb base : Nat) (v : Value) (L : List Ch2) (c : Ch2) (w : World) (e : Ending) (w' : World) : Prop :=
  e = .returned (.bool true) ∧ ∃ v', Got w' eb wb xb ob nb base v' (L ++ [c]) ∧ Only (gotB eb wb xb ob nb v) w w' ∧ ∀ b, v'.ownBlock = some b → v.ownBlock = some b ∨ w.heap.size ≤ b

set_option maxRecDepth 100000 in
set_option maxHeartbeats 4000000 in
theorem got_one {eb wb xb ob nb base : Nat} {v : Value} {L : List Ch2} {c : Ch2} {w : World} (h : Got w eb wb xb ob nb base v L) (hl : L.length ≤ 1000000) (hb : base ≤ w.heap.size) :
    Calls Try.prog 31 #[.agg #[.int .i64 c.key, .int .i64 c.old, .int .i64 c.new, .bool c.had, .bool c.has], .int .i64 0, .pointer (some ⟨eb, 0, none⟩), .pointer (some ⟨wb, 0, none⟩), .pointer (some ⟨xb, 0, none⟩), .pointer (some ⟨ob, 0, none⟩), .pointer (some ⟨nb, 0, none⟩)] w (GotPost eb wb xb ob nb base v L c w) := by
  obtain ⟨i0, hi0, hz0, hz1, hz2⟩ := info_parts info_change
  have HI0 := Lib.hid hi0
  obtain ⟨ck, hck⟩ : ∃ ck, c.key = ck := ⟨_, rfl⟩
  obtain ⟨co, hco⟩ : ∃ co, c.old = co := ⟨_, rfl⟩
  obtain ⟨cn, hcn⟩ : ∃ cn, c.new = cn := ⟨_, rfl⟩
  obtain ⟨ch, hch⟩ : ∃ ch, c.had = ch := ⟨_, rfl⟩
  obtain ⟨cs, hcs⟩ : ∃ cs, c.has = cs := ⟨_, rfl⟩
  have HCC : Hid (chgC c = [.int .i64 ck, .int .i64 co, .int .i64 cn, .bool ch, .bool cs]) := Lib.hid (by unfold chgC; rw [hck, hco, hcn, hch, hcs])
  rw [hck, hco, hcn, hch, hcs]
  have HH := Lib.hid h
  have HBB := Lib.hid hb
  have HLL := Lib.hid hl
  clear hck hco hcn hch hcs h hb hl hi0
  obtain ⟨xs, hxs⟩ : ∃ xs, chgsC L = xs := ⟨_, rfl⟩
  have HXS := Lib.hid hxs
  clear hxs
  obtain ⟨m, hm⟩ : ∃ m, L.length = m := ⟨_, rfl⟩
  have HM := Lib.hid hm
  clear hm
  go_enter Try.func31, Try.ntmps31
  go_upto_region 1 with fail
  refine wp_name (fun w1 => Got w1 eb wb xb ob nb base v L ∧ Blk w1 w.heap.size #[.int .i64 ck, .int .i64 co, .int .i64 cn, .bool ch, .bool cs] 47 ∧ Only [] w w1) ⟨HH.out.only (Only.alloc [] _ _) (by simp), Blk.new _ _ _, Only.alloc _ _ _⟩ ?_
  have hgl := HH.out.lt
  have HGL := Lib.hid hgl
  obtain ⟨ab, hab⟩ : ∃ ab, w.heap.size = ab := ⟨_, rfl⟩
  have HAB := Lib.hid hab
  rw [hab]
  clear hgl hab
  rintro w1 ⟨hG1, hA1, hO1⟩
  have HG1 := Lib.hid hG1
  have HO1 := Lib.hid hO1
  have e0 := hG1.e.cell 0 rfl
  have o0 := hG1.o.cell 0 rfl
  have nn0 := hG1.n.cell 0 rfl
  have a0 := hA1.cell 0 rfl
  have a1 := hA1.cell 1 rfl
  have a2 := hA1.cell 2 rfl
  have a3 := hA1.cell 3 rfl
  have a4 := hA1.cell 4 rfl
  have hi0 := HI0.out
  have how := hG1.own
  rw [HM.out, HXS.out] at how
  have HOW := Lib.hid how
  have hml : m ≤ 1000000 := by rw [← HM.out]; exact HLL.out
  have hbs : base ≤ w1.heap.size := Nat.le_trans HBB.out hO1.size
  clear hG1 hA1 hO1 how
  go_upto_region 4 with fail
  go_wp2_with (first | (go_at_call 8; refine (num_12 _ _).mono ?_; rintro e w' ⟨rfl, rfl⟩) | (at_builtin; refine wpList_append_own_at _ rfl (.tmp 16) (.tmp 18) 43 rfl base 47 i0 _ 5 32 Try.underlying43 hi0 hz0 hz1 hz2 rfl (by decide) _ _ _ rfl (HOW.out.alloc _) ⟨w1.heap.size, 0, none⟩ 1 1 [.int .i64 ck, .int .i64 co, .int .i64 cn, .bool ch, .bool cs] rfl rfl (cells_five _ _ _ _ _ _ _) (fun u hu => by simp at hu; rcases hu with rfl | rfl | rfl | rfl | rfl <;> rfl) (by unfold maxLen; omega) (by omega) (by simp; omega) ?_))
  intro v' w2 hown2 hg2 _ hat2
  obtain ⟨ad2, cap2, rfl⟩ := own_slice_any hown2
  have hX2 : Only v.ownBlock.toList w1 w2 := (Only.alloc _ _ _).trans (Only.of_grown hg2 (by intro k hk; simp [hk]))
  have hvn := HG1.out.out
  have hmem : ∀ b, b ∈ v.ownBlock.toList → v.ownBlock = some b := fun b hb => by simpa using hb
  have hE2 := HG1.out.e.only hX2 (fun hm => (hvn _ (hmem _ hm)).1 rfl)
  have hW2 := HG1.out.wl.only hX2 (fun hm => (hvn _ (hmem _ hm)).2.1 rfl)
  have hXX2 := HG1.out.x.only hX2 (fun hm => (hvn _ (hmem _ hm)).2.2.1 rfl)
  have hO2 := HG1.out.o.only hX2 (fun hm => (hvn _ (hmem _ hm)).2.2.2.1 rfl)
  have hN2 := HG1.out.n.only hX2 (fun hm => (hvn _ (hmem _ hm)).2.2.2.2 rfl)
  have hat : ∀ b, (Value.slice ad2 (m + 1) cap2).ownBlock = some b → v.ownBlock = some b ∨ w1.heap.size ≤ b := by
    intro b hb
    rcases hat2 with h | h
    · exact Or.inl (by rw [← h]; exact hb)
    · right
      rw [hb] at h
      simp at h
      omega
  have HAT := Lib.hid hat
  have hgl1 := HG1.out.lt
  have HGL1 := Lib.hid hgl1
  have hs12 : w1.heap.size ≤ w2.heap.size := hX2.size
  have e0 := hE2.cell 0 rfl
  have o0 := hO2.cell 0 rfl
  have nn0 := hN2.cell 0 rfl
  have fe := hE2.free 0
  have fo := hO2.free 0
  obtain ⟨q1, q2, q3, q4, q5, q6, q7⟩ := HG1.out.apart
  have HQ := Lib.hid HG1.out.apart
  have HE2 := Lib.hid hE2
  have HW2 := Lib.hid hW2
  have HXX2 := Lib.hid hXX2
  have HO2 := Lib.hid hO2
  have HN2 := Lib.hid hN2
  have HOW2 := Lib.hid hown2
  have HX2 := Lib.hid (HO1.out.mono (by simp) |>.trans hX2 : Only v.ownBlock.toList w w2)
  have hneq : (((m : Int) + 1) == -1) = false := by simp; omega
  have hneq2 : (((m + 1 : Nat) : Int) == -1) = false := by simp; omega
  have o1a : (w2.setCell ⟨ob, 0, none⟩ (.slice ad2 (m + 1) cap2)).cell? ⟨nb, 0, none⟩ = some (.int .i64 (-1)) := (hN2.set_other (a := ⟨ob, 0, none⟩) (fun e => q3 e.symm) _).cell 0 rfl
  have o1b : (w2.setCell ⟨ob, 0, none⟩ (.slice ad2 (m + 1) cap2)).cell? ⟨eb, 0, none⟩ = some (.bool false) := (hE2.set_other (a := ⟨ob, 0, none⟩) q1 _).cell 0 rfl
  clear hown2 hg2 hat2 hX2 hvn hmem hE2 hW2 hXX2 hO2 hN2 hat hgl1 a0 a1 a2 a3 a4 hi0
  go_wp2_with fail
  go_ret
  have hX3 : Only [eb, ob] w2 ((w2.setCell ⟨ob, 0, none⟩ (.slice ad2 (m + 1) cap2)).setCell ⟨eb, 0, none⟩ (.bool false)) := (Only.setCell _ (by simp) _).trans (Only.setCell _ (by simp) _)
  have hvo : ∀ b, (Value.slice ad2 (m + 1) cap2).ownBlock = some b → b ≠ eb ∧ b ≠ wb ∧ b ≠ xb ∧ b ≠ ob ∧ b ≠ nb := by
    intro b hb
    rcases HAT.out b hb with h | h
    · exact HG1.out.out b h
    · have g1 := HGL1.out eb (by simp [gotB])
      have g2 := HGL1.out wb (by simp [gotB])
      have g3 := HGL1.out xb (by simp [gotB])
      have g4 := HGL1.out ob (by simp [gotB])
      have g5 := HGL1.out nb (by simp [gotB])
      refine ⟨?_, ?_, ?_, ?_, ?_⟩ <;> omega
  refine ⟨rfl, .slice ad2 (m + 1) cap2, ⟨?_, HW2.out.only hX3 (by simp; exact ⟨fun e => q4 e.symm, fun e => q6 e.symm⟩), HXX2.out.only hX3 (by simp; exact ⟨fun e => q5 e.symm, fun e => q7 e.symm⟩), ?_, HN2.out.only hX3 (by simp; exact ⟨fun e => q2 e.symm, fun e => q3 e.symm⟩), ?_, HQ.out, hvo⟩, ?_, ?_⟩
  · have := (HE2.out.set_other (a := ⟨ob, 0, none⟩) q1 (.slice ad2 (m + 1) cap2)).set_same 0 (.bool false)
    simpa using this
  · have := (HO2.out.set_same 0 (.slice ad2 (m + 1) cap2)).set_other (a := ⟨eb, 0, none⟩) (fun e => q1 e.symm) (.bool false)
    simpa using this
  · rw [chgsC_snoc, List.length_append, HM.out, HXS.out, HCC.out]
    exact ownsRow_only HOW2.out hX3 (fun b hb hm => by
      have := hvo b hb
      simp at hm
      rcases hm with rfl | rfl
      · exact this.1 rfl
      · exact this.2.2.2.1 rfl)
  · exact (HX2.out.mono (by intro b hb; simp only [gotB, List.mem_cons]; simp [hb])).trans (hX3.mono (by intro b hb; simp at hb; rcases hb with rfl | rfl <;> simp [gotB]))
  · intro b hb
    rcases HAT.out b hb with h | h
    · exact Or.inl h
    · exact Or.inr (by have := HO1.out.size; omega)

end Go.Proofs.Ytacegkjobfeiiaa

