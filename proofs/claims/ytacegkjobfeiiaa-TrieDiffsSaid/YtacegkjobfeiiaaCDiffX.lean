/- Two maps gone through beside one another, as a call. Conditions: all stands in memory as Dcx says. · Diff's closure called with what takes the changes. Conditions: the maps stand in memory as TrAt and RepO say, the taker's variables as Got says. · Diff's changes taken: given as a call. Conditions: the maps stand in memory as TrAt and RepO say. -/
import Derived.Test.YtacegkjobfeiiaaCTrieQ
import Derived.Test.YtacegkjobfeiiaaCTrieDm
import Derived.Test.YtacegkjobfeiiaaCTrieDn
import Derived.Test.YtacegkjobfeiiaaCTrieDo
import Derived.Test.YtacegkjobfeiiaaCTrieDp
import Derived.Test.YtacegkjobfeiiaaCTrieDq
set_option linter.unusedVariables false
set_option linter.unusedSimpArgs false
set_option linter.unusedSectionVars false
set_option linter.unnecessarySimpa false
namespace Go.Proofs.Ytacegkjobfeiiaa
open Go.RowKit

theorem leaf_of {x : Tr} (h : x.isLeaf = true) : ∃ i k u, x = .leaf i k u := by
  cases x with
  | leaf i k u => exact ⟨i, k, u, rfl⟩
  | node => cases h

theorem node_of {x : Tr} (h : x.isLeaf = false) : ∃ i p f l r, x = .node i p f l r := by
  cases x with
  | leaf => cases h
  | node i p f l r => exact ⟨i, p, f, l, r, rfl⟩

theorem beside_ok {A : PA} {n : Nat} {S : Nat → Sl} {t : Int} {fs : List Nat} {fa : Int} {tb db eb wb xb ob nb base : Nat} (hn : n ≤ 4096) : ∀ (m : Nat) (x y : Tr), x.cnt + y.cnt ≤ m → BesideOk A n S t fs fa tb db eb wb xb ob nb base x y := by
  intro m
  induction m with
  | zero => intro x y h; have := Tr.cnt_pos x; omega
  | succ m ihm =>
  intro x y hm
  have IH : ∀ x2 y2 : Tr, x2.cnt + y2.cnt < x.cnt + y.cnt → BesideOk A n S t fs fa tb db eb wb xb ob nb base x2 y2 := fun x2 y2 h => ihm x2 y2 (by omega)
  intro sa sb v L w h Rx Ry wx wy hA hB hl pa pb hab
  by_cases hh : hnd S x = hnd S y
  · have := rep_inj hn x y Rx Ry wx wy hh
    subst this
    obtain ⟨lo1, hi1, np1, a1, _⟩ := hA
    obtain ⟨lo2, hi2, np2, b1, _⟩ := hB
    rw [md_same]
    exact beside_same h a1 b1
  by_cases h1 : x.hi < y.lo
  · exact beside_left h Rx Ry wx wy hA hB hl pa pb hab hh h1
  by_cases h2 : y.hi < x.lo
  · exact beside_right h Rx Ry wx wy hA hB hl pa pb hab hh h1 h2
  have sx := Tr.wf_span wx
  have sy := Tr.wf_span wy
  cases hlx : x.isLeaf with
  | true =>
    obtain ⟨i, k, u, rfl⟩ := leaf_of hlx
    cases hly : y.isLeaf with
    | true =>
      obtain ⟨j, k2, u2, rfl⟩ := leaf_of hly
      have hk : k = k2 := by simp only [Tr.lo, Tr.hi] at h1 h2; omega
      subst hk
      exact beside_leaves h Rx Ry wx wy hA hB hl pa pb hab hh h1 h2 rfl rfl
    | false =>
      obtain ⟨j, q, g, l2, r2, rfl⟩ := node_of hly
      have hq := pw_pos q
      have hq1 := pw_succ q
      have hsz : (Tr.leaf i k u).hi - (Tr.leaf i k u).lo < (Tr.node j q g l2 r2).hi - (Tr.node j q g l2 r2).lo := by simp only [Tr.lo, Tr.hi]; omega
      by_cases hg : g + pw q ≤ (Tr.leaf i k u).lo
      · exact beside_yR_leaf h Rx Ry wx wy hA hB hl pa pb hab hh h1 h2 IH rfl hlx hsz ⟨rfl, hg⟩
      · have hg2 : (Tr.leaf i k u).lo < g + pw q := by omega
        exact beside_yL_leaf h Rx Ry wx wy hA hB hl pa pb hab hh h1 h2 IH rfl hlx hsz ⟨rfl, hg2, hg2⟩
  | false =>
    obtain ⟨i, p, f, l, r, rfl⟩ := node_of hlx
    have hp := pw_pos p
    have hp1 := pw_succ p
    cases hly : y.isLeaf with
    | true =>
      obtain ⟨j, k, u, rfl⟩ := leaf_of hly
      have hsz : (Tr.leaf j k u).hi - (Tr.leaf j k u).lo < (Tr.node i p f l r).hi - (Tr.node i p f l r).lo := by simp only [Tr.lo, Tr.hi]; omega
      by_cases hg : f + pw p ≤ (Tr.leaf j k u).lo
      · exact beside_xR_leaf h Rx Ry wx wy hA hB hl pa pb hab hh h1 h2 IH rfl hly hsz ⟨rfl, hg⟩
      · have hg2 : (Tr.leaf j k u).lo < f + pw p := by omega
        exact beside_xL_leaf h Rx Ry wx wy hA hB hl pa pb hab hh h1 h2 IH rfl hly hsz ⟨rfl, hg2, hg2⟩
    | false =>
      obtain ⟨j, q, g, l2, r2, rfl⟩ := node_of hly
      have hq := pw_pos q
      have hq1 := pw_succ q
      by_cases hz : (Tr.node j q g l2 r2).hi - (Tr.node j q g l2 r2).lo < (Tr.node i p f l r).hi - (Tr.node i p f l r).lo
      · have hne := nest wx wy (by simp only [Tr.lo, Tr.hi] at *; omega)
        by_cases hg : f + pw p ≤ (Tr.node j q g l2 r2).lo
        · exact beside_xR_ne h Rx Ry wx wy hA hB hl pa pb hab hh h1 h2 IH rfl hly (by simp only [Tr.lo] at *; omega) hz ⟨rfl, hg⟩
        · have hg2 : (Tr.node j q g l2 r2).lo < f + pw p := by omega
          by_cases he : (Tr.node i p f l r).lo = (Tr.node j q g l2 r2).lo
          · exact beside_xL_eq h Rx Ry wx wy hA hB hl pa pb hab hh h1 h2 IH rfl hly he hz ⟨rfl, hg2, hne hg2⟩
          · exact beside_xL_ne h Rx Ry wx wy hA hB hl pa pb hab hh h1 h2 IH rfl hly he hz ⟨rfl, hg2, hne hg2⟩
      · by_cases hz2 : (Tr.node i p f l r).hi - (Tr.node i p f l r).lo < (Tr.node j q g l2 r2).hi - (Tr.node j q g l2 r2).lo
        · have hne := nest wy wx (by simp only [Tr.lo, Tr.hi] at *; omega)
          by_cases hg : g + pw q ≤ (Tr.node i p f l r).lo
          · exact beside_yR_ne h Rx Ry wx wy hA hB hl pa pb hab hh h1 h2 IH rfl hlx (by simp only [Tr.lo] at *; omega) hz2 ⟨rfl, hg⟩
          · have hg2 : (Tr.node i p f l r).lo < g + pw q := by omega
            by_cases he : (Tr.node i p f l r).lo = (Tr.node j q g l2 r2).lo
            · exact beside_yL_eq h Rx Ry wx wy hA hB hl pa pb hab hh h1 h2 IH rfl hlx he hz2 ⟨rfl, hg2, hne hg2⟩
            · exact beside_yL_ne h Rx Ry wx wy hA hB hl pa pb hab hh h1 h2 IH rfl hlx he hz2 ⟨rfl, hg2, hne hg2⟩
        · have hs : pw (p + 1) = pw (q + 1) := by simp only [Tr.lo, Tr.hi] at *; omega
          have hfg := one_span wx wy (by simpa only [Tr.lo, Tr.hi] using h1) (by simpa only [Tr.lo, Tr.hi] using h2) hs
          exact beside_span h Rx Ry wx wy hA hB hl pa pb hab hh h1 h2 IH rfl rfl ⟨hfg, by simp only [Tr.hi]; omega⟩

end Go.Proofs.Ytacegkjobfeiiaa

namespace Go.Proofs.Ytacegkjobfeiiaa
open Go.RowKit

def cntO : Option Tr → Nat
  | none => 0
  | some x => x.cnt

set_option maxRecDepth 100000 in
set_option maxHeartbeats 4000000 in
theorem beside_none_left {A : PA} {n : Nat} {S : Nat → Sl} {t : Int} {fs : List Nat} {fa : Int} {tb db eb wb xb ob nb base sa sb : Nat} {v : Value} {L : List Ch2} {w : World} {y : Tr} {l1 h1 : Int} {n1 : Value} {f1 : Bool} (h : Dcx A n S t fs fa tb db eb wb xb ob nb base v L w) (Ry : Rep n S y) (wy : y.wf) (hA : SideAt w sa 0 l1 h1 n1 f1) (hB : SideOf w sb S y false) (hl : L.length + y.cnt ≤ 1000000) (pb : Apt A tb db eb wb xb ob nb v sb) :
    Calls Try.prog 33 #[.pointer (some ⟨db, 0, none⟩), .pointer (some ⟨sa, 0, none⟩), .pointer (some ⟨sb, 0, none⟩)] w (MorePost eb wb xb ob nb base v L (allC false y) [sa, sb] w) := by
  have hp := hnd_pos Ry
  have s0 := Blk.cell hA 0 rfl
  have HB0 := Lib.hid hB
  obtain ⟨_, _, _, b1, _⟩ := hB
  have t0 := Blk.cell b1 0 rfl
  have HP0 := Lib.hid (Pg.start (X := [sa, sb]) h)
  have HIN := Lib.hid (show Rep n S y ∧ y.wf ∧ L.length + y.cnt ≤ 1000000 ∧ Apt A tb db eb wb xb ob nb v sb from ⟨Ry, wy, hl, pb⟩)
  obtain ⟨hy, hhy⟩ : ∃ u, hnd S y = u := ⟨_, rfl⟩
  rw [hhy] at hp t0
  have e1 : ((0 : Int) == hy) = false := by simp; omega
  clear h hA b1 Ry wy hl pb hhy hp
  go_enter Try.func33, Try.ntmps33
  go_upto_region 1 with fail
  go_quiet (fail)
  go_upto_if 15 with fail
  refine wp_name (fun w1 => Only [] w w1 ∧ w1.cell? ⟨sa, 0, none⟩ = some (.int .i64 0) ∧ w1.cell? ⟨sb, 0, none⟩ = some (.int .i64 hy)) ⟨Only.drewN _ _ _, s0, t0⟩ ?_
  clear s0 t0
  rintro w1 ⟨hO1, s0, t0⟩
  have HP1 := Lib.hid (HP0.out.plain hO1)
  have HALL := Lib.hid (diff_all y HP1.out.dcx HIN.out.1 HIN.out.2.1 (HB0.out.plain hO1) (by have := HIN.out.2.2.1; simp; omega) HIN.out.2.2.2.t HIN.out.2.2.2.d HIN.out.2.2.2.a HIN.out.2.2.2.g)
  clear hO1
  go_wp2_with fail
  refine HALL.out.mono ?_
  rintro e w2 hm2
  obtain ⟨rfl, v2, hP2, _, _⟩ := HP1.out.more hm2 (by intro k hk; simp at hk; subst hk; exact ⟨Or.inl (by simp), HIN.out.2.2.2⟩)
  have HP2 := Lib.hid hP2
  clear hm2 hP2 HALL s0 t0
  go_wp2_with fail
  go_ret
  exact HP2.out.done

set_option maxRecDepth 100000 in
set_option maxHeartbeats 4000000 in
theorem beside_none_right {A : PA} {n : Nat} {S : Nat → Sl} {t : Int} {fs : List Nat} {fa : Int} {tb db eb wb xb ob nb base sa sb : Nat} {v : Value} {L : List Ch2} {w : World} {x : Tr} {l1 h1 : Int} {n1 : Value} {f1 : Bool} (h : Dcx A n S t fs fa tb db eb wb xb ob nb base v L w) (Rx : Rep n S x) (wx : x.wf) (hA : SideOf w sa S x true) (hB : SideAt w sb 0 l1 h1 n1 f1) (hl : L.length + x.cnt ≤ 1000000) (pa : Apt A tb db eb wb xb ob nb v sa) :
    Calls Try.prog 33 #[.pointer (some ⟨db, 0, none⟩), .pointer (some ⟨sa, 0, none⟩), .pointer (some ⟨sb, 0, none⟩)] w (MorePost eb wb xb ob nb base v L (allC true x) [sa, sb] w) := by
  have hp := hnd_pos Rx
  have t0 := Blk.cell hB 0 rfl
  have HA0 := Lib.hid hA
  obtain ⟨_, _, _, b1, _⟩ := hA
  have s0 := Blk.cell b1 0 rfl
  have HP0 := Lib.hid (Pg.start (X := [sa, sb]) h)
  have HIN := Lib.hid (show Rep n S x ∧ x.wf ∧ L.length + x.cnt ≤ 1000000 ∧ Apt A tb db eb wb xb ob nb v sa from ⟨Rx, wx, hl, pa⟩)
  obtain ⟨hx, hhx⟩ : ∃ u, hnd S x = u := ⟨_, rfl⟩
  rw [hhx] at hp s0
  have e1 : (hx == 0) = false := by simp; omega
  clear h hB b1 Rx wx hl pa hhx hp
  go_enter Try.func33, Try.ntmps33
  go_upto_region 1 with fail
  go_quiet (fail)
  go_upto_if 15 with fail
  refine wp_name (fun w1 => Only [] w w1 ∧ w1.cell? ⟨sa, 0, none⟩ = some (.int .i64 hx) ∧ w1.cell? ⟨sb, 0, none⟩ = some (.int .i64 0)) ⟨Only.drewN _ _ _, s0, t0⟩ ?_
  clear s0 t0
  rintro w1 ⟨hO1, s0, t0⟩
  have HP1 := Lib.hid (HP0.out.plain hO1)
  have HALL := Lib.hid (diff_all x HP1.out.dcx HIN.out.1 HIN.out.2.1 (HA0.out.plain hO1) (by have := HIN.out.2.2.1; simp; omega) HIN.out.2.2.2.t HIN.out.2.2.2.d HIN.out.2.2.2.a HIN.out.2.2.2.g)
  clear hO1
  go_wp2_with fail
  refine HALL.out.mono ?_
  rintro e w2 hm2
  obtain ⟨rfl, v2, hP2, _, _⟩ := HP1.out.more hm2 (by intro k hk; simp at hk; subst hk; exact ⟨Or.inl (by simp), HIN.out.2.2.2⟩)
  have HP2 := Lib.hid hP2
  clear hm2 hP2 HALL s0 t0
  go_wp2_with fail
  go_ret
  exact HP2.out.done

/-- Two maps, each empty or not. -/
theorem beside_opt {A : PA} {n : Nat} {S : Nat → Sl} {t : Int} {fs : List Nat} {fa : Int} {tb db eb wb xb ob nb base sa sb : Nat} {v : Value} {L : List Ch2} {w : World} {ox oy : Option Tr} (h : Dcx A n S t fs fa tb db eb wb xb ob nb base v L w) (Rx : RepO n S ox) (Ry : RepO n S oy) (hA : SideAt w sa (rootOf S ox) 0 4294967295 (.pointer none) true) (hB : SideAt w sb (rootOf S oy) 0 4294967295 (.pointer none) false) (hl : L.length + cntO ox + cntO oy ≤ 1000000) (pa : Apt A tb db eb wb xb ob nb v sa) (pb : Apt A tb db eb wb xb ob nb v sb) (hab : sa ≠ sb) :
    Calls Try.prog 33 #[.pointer (some ⟨db, 0, none⟩), .pointer (some ⟨sa, 0, none⟩), .pointer (some ⟨sb, 0, none⟩)] w (MorePost eb wb xb ob nb base v L (md (prs ox) (prs oy)) [sa, sb] w) := by
  cases ox with
  | none =>
    cases oy with
    | none =>
      show Calls _ _ _ _ (MorePost eb wb xb ob nb base v L (md [] []) [sa, sb] w)
      rw [md_same]
      exact beside_same h hA hB
    | some y =>
      have hs := Tr.wf_span Ry.2
      have := beside_none_left h Ry.1 Ry.2 hA ⟨_, _, _, hB, hs.1, hs.2.2, Or.inl rfl⟩ (by simp only [cntO] at hl; omega) pb
      show Calls _ _ _ _ (MorePost eb wb xb ob nb base v L (md [] y.pairs) [sa, sb] w)
      rw [md_nil_left]
      exact this
  | some x =>
    have hs := Tr.wf_span Rx.2
    cases oy with
    | none =>
      have := beside_none_right h Rx.1 Rx.2 ⟨_, _, _, hA, hs.1, hs.2.2, Or.inl rfl⟩ hB (by simp only [cntO] at hl; omega) pa
      show Calls _ _ _ _ (MorePost eb wb xb ob nb base v L (md x.pairs []) [sa, sb] w)
      rw [md_nil_right]
      exact this
    | some y =>
      have hs2 := Tr.wf_span Ry.2
      exact beside_ok h.tr.pool.many.2 _ x y (Nat.le_refl _) sa sb v L w h Rx.1 Ry.1 Rx.2 Ry.2 ⟨_, _, _, hA, hs.1, hs.2.2, Or.inl rfl⟩ ⟨_, _, _, hB, hs2.1, hs2.2.2, Or.inl rfl⟩ hl pa pb hab

/-- All changes have come. -/
def CameAll (eb wb xb ob nb base : Nat) (v : Value) (M : List Ch2) (w : World) (e : Ending) (w' : World) : Prop :=
  e = .returned (.tuple #[]) ∧ ∃ v', Got w' eb wb xb ob nb base v' M ∧ Only (gotB eb wb xb ob nb v) w w' ∧ ∀ b, v'.ownBlock = some b → v.ownBlock = some b ∨ w.heap.size ≤ b

set_option maxRecDepth 100000 in
set_option maxHeartbeats 4000000 in
theorem diff_one {A : PA} {n : Nat} {S : Nat → Sl} {t : Int} {fs : List Nat} {fa : Int} {tb eb wb xb ob nb base : Nat} {v : Value} {w : World} {ox oy : Option Tr} {p0 p1 p2 p3 : Nat} (T : TrAt w tb A n S t fs fa) (G : Got w eb wb xb ob nb base v []) (hb : base ≤ w.heap.size) (ht : tb ∉ gotB eb wb xb ob nb v) (ha : ∀ k, k ∈ A.all → k ∉ gotB eb wb xb ob nb v) (Rx : RepO n S ox) (Ry : RepO n S oy) (hl : cntO ox + cntO oy ≤ 1000000)
    (c0 : w.cell? ⟨p0, 0, none⟩ = some (.pointer (some ⟨tb, 0, none⟩))) (c1 : w.cell? ⟨p1, 0, none⟩ = some (.pointer none)) (c2 : w.cell? ⟨p2, 0, none⟩ = some (.int .i64 (rootOf S ox))) (c3 : w.cell? ⟨p3, 0, none⟩ = some (.int .i64 (rootOf S oy))) :
    Calls Try.prog 32 #[yldV eb wb xb ob nb, .pointer (some ⟨p0, 0, none⟩), .pointer (some ⟨p1, 0, none⟩), .pointer (some ⟨p2, 0, none⟩), .pointer (some ⟨p3, 0, none⟩)] w (CameAll eb wb xb ob nb base v (md (prs ox) (prs oy)) w) := by
  have hcs : ∀ (o : Obj) (b : Nat) (u : Value), w.cell? ⟨b, 0, none⟩ = some u → (w.alloc o).cell? ⟨b, 0, none⟩ = some u := fun o b u h => keep_cell (Only.alloc [] w o) h
  have HIN := Lib.hid (show TrAt w tb A n S t fs fa ∧ Got w eb wb xb ob nb base v [] ∧ base ≤ w.heap.size ∧ tb ∉ gotB eb wb xb ob nb v ∧ (∀ k, k ∈ A.all → k ∉ gotB eb wb xb ob nb v) ∧ RepO n S ox ∧ RepO n S oy ∧ cntO ox + cntO oy ≤ 1000000 from ⟨T, G, hb, ht, ha, Rx, Ry, hl⟩)
  obtain ⟨hx, hhx⟩ : ∃ u, rootOf S ox = u := ⟨_, rfl⟩
  obtain ⟨hy, hhy⟩ : ∃ u, rootOf S oy = u := ⟨_, rfl⟩
  rw [hhx] at c2
  rw [hhy] at c3
  have HHX := Lib.hid hhx
  have HHY := Lib.hid hhy
  have d2 := fun o => hcs o p2 _ c2
  have d3 := fun o => hcs o p3 _ c3
  have HD3 := Lib.hid d3
  clear T G hb ht ha Rx Ry hl hhx hhy hcs
  unfold yldV
  go_enter Try.func32, Try.ntmps32
  go_upto_region 1 with fail
  refine wp_name (fun w1 => Blk w1 w.heap.size #[.pointer (some ⟨tb, 0, none⟩), .pointer none, yldV eb wb xb ob nb] 97 ∧ Only [] w w1) ⟨Blk.new _ _ _, Only.alloc _ _ _⟩ ?_
  have HF : Hid (tb < w.heap.size ∧ ∀ k, k ∈ A.all → k < w.heap.size) := Lib.hid HIN.out.1.lt
  obtain ⟨db, hdb⟩ : ∃ b, w.heap.size = b := ⟨_, rfl⟩
  have HDB := Lib.hid hdb
  rw [hdb]
  clear hdb d2 d3
  rintro w1 ⟨hD1, hO1⟩
  have c2a := keep_cell hO1 c2
  have c3a := keep_cell hO1 c3
  have c3b : ∀ o, (w1.alloc o).cell? ⟨p3, 0, none⟩ = some (.int .i64 hy) := fun o => keep_cell (hO1.trans (Only.alloc [] w1 o)) c3
  have HD1 := Lib.hid hD1
  have HO1 := Lib.hid hO1
  clear c0 c1 c2 c3 hD1 hO1 HD3
  go_wp2_with fail
  refine calls_name (fun w3 => SideAt w3 w1.heap.size hx 0 4294967295 (.pointer none) true ∧ SideAt w3 (w1.heap.size + 1) hy 0 4294967295 (.pointer none) false ∧ Only [] w1 w3) ⟨(Blk.new w1 _ _).alloc _, ?_, (Only.alloc [] _ _).trans (Only.alloc [] _ _)⟩ ?_
  · have := Blk.new (w1.alloc (.cells #[.int .i64 hx, .int .i64 0, .int .i64 4294967295, .pointer none, .bool true] 102)) #[.int .i64 hy, .int .i64 0, .int .i64 4294967295, .pointer none, .bool false] 102
    simpa [SideAt] using this
  rintro w3 ⟨hA3, hB3, hX3⟩
  have hX := HO1.out.trans hX3
  have hG := HIN.out.2.1.only hX (by simp)
  have hdc : Dcx A n S t fs fa tb db eb wb xb ob nb base v [] w3 := by
    refine ⟨HIN.out.1.plain hX, HD1.out.only hX3 (by simp), hG, ?_, HIN.out.2.2.2.1, HIN.out.2.2.2.2.1, ?_, ?_, Nat.le_trans HIN.out.2.2.1 hX.size⟩
    · intro hm; have := HIN.out.2.1.lt _ hm; have := HDB.out; omega
    · have := HF.out.1; have := HDB.out; omega
    · intro hm; have := HF.out.2 _ hm; have := HDB.out; omega
  have hlt : db < w1.heap.size := HD1.out.lt
  have hsz := HO1.out.size
  have hap : ∀ s, w1.heap.size ≤ s → Apt A tb db eb wb xb ob nb v s := fun s hs => ⟨by have := HF.out.1; omega, by omega, fun hm => by have := HF.out.2 _ hm; omega, fun hm => by have := HIN.out.2.1.lt _ hm; omega⟩
  rw [← HHX.out] at hA3
  rw [← HHY.out] at hB3
  refine (beside_opt hdc HIN.out.2.2.2.2.2.1 HIN.out.2.2.2.2.2.2.1 hA3 hB3 (by have := HIN.out.2.2.2.2.2.2.2; simp; omega) (hap _ (Nat.le_refl _)) (hap _ (by omega)) (by omega)).mono ?_
  rintro e w4 ⟨rfl, v4, hG4, hX4, hv4⟩
  have HG4 := Lib.hid hG4
  have HX4 : Hid (Only (gotB eb wb xb ob nb v) w w4) := Lib.hid (((HO1.out.trans hX3).mono (by simp)).past hX4 (fun i hi => by
    rcases List.mem_append.1 hi with hi | hi
    · right; simp at hi; have := HDB.out; omega
    · exact Or.inl hi))
  have HV4 := Lib.hid hv4
  have HX3 := Lib.hid hX3
  clear hA3 hB3 hX3 hX hG hdc hlt hsz hap hG4 hX4 hv4 c2a c3a c3b
  go_wp2_with fail
  go_end0
  exact ⟨rfl, v4, by simpa using HG4.out, HX4.out, fun b hb => (HV4.out b hb).imp id (fun h => Nat.le_trans (Nat.le_trans HO1.out.size HX3.out.size) h)⟩

end Go.Proofs.Ytacegkjobfeiiaa

namespace Go.Proofs.Ytacegkjobfeiiaa
open Go.RowKit

theorem three_new (w : World) (a b c : Array Value) (ta tb tc : TypeId) :
    Blk (((w.alloc (.cells a ta)).alloc (.cells b tb)).alloc (.cells c tc)).drew w.heap.size a ta ∧ Blk (((w.alloc (.cells a ta)).alloc (.cells b tb)).alloc (.cells c tc)).drew (w.heap.size + 1) b tb ∧
    Blk (((w.alloc (.cells a ta)).alloc (.cells b tb)).alloc (.cells c tc)).drew (w.heap.size + 1 + 1) c tc ∧ Only [] w (((w.alloc (.cells a ta)).alloc (.cells b tb)).alloc (.cells c tc)).drew := by
  refine ⟨(((Blk.new w a ta).alloc _).alloc _).drew, ?_, ?_, (((Only.alloc [] w _).trans (Only.alloc [] _ _)).trans (Only.alloc [] _ _)).trans (Only.drew _ _)⟩
  · have := ((Blk.new (w.alloc (.cells a ta)) b tb).alloc (.cells c tc)).drew
    simpa using this
  · have := (Blk.new ((w.alloc (.cells a ta)).alloc (.cells b tb)) c tc).drew
    simpa using this

/-- The changes that were given. -/
def GivenC (M : List Ch2) (w : World) (e : Ending) (w' : World) : Prop :=
  ∃ v', e = .returned (.tuple #[v', .int .i64 0, .bool true]) ∧ w'.ownsRow w.heap.size 47 5 v' M.length (chgsC M) ∧ Only [] w w'

set_option maxRecDepth 100000 in
set_option maxHeartbeats 4000000 in
theorem given_diff {A : PA} {n : Nat} {S : Nat → Sl} {t : Int} {fs : List Nat} {fa : Int} {tb : Nat} {w : World} {ox oy : Option Tr} {p0 p1 p2 p3 : Nat} (T : TrAt w tb A n S t fs fa) (Rx : RepO n S ox) (Ry : RepO n S oy) (hl : cntO ox + cntO oy ≤ 1000000)
    (c0 : w.cell? ⟨p0, 0, none⟩ = some (.pointer (some ⟨tb, 0, none⟩))) (c1 : w.cell? ⟨p1, 0, none⟩ = some (.pointer none)) (c2 : w.cell? ⟨p2, 0, none⟩ = some (.int .i64 (rootOf S ox))) (c3 : w.cell? ⟨p3, 0, none⟩ = some (.int .i64 (rootOf S oy))) :
    Calls Try.prog 11 #[.func (.func 32) #[] #[.pointer (some ⟨p0, 0, none⟩), .pointer (some ⟨p1, 0, none⟩), .pointer (some ⟨p2, 0, none⟩), .pointer (some ⟨p3, 0, none⟩)], .int .i64 (-1)] w (GivenC (md (prs ox) (prs oy)) w) := by
  have HIN := Lib.hid (show TrAt w tb A n S t fs fa ∧ RepO n S ox ∧ RepO n S oy ∧ cntO ox + cntO oy ≤ 1000000 ∧ w.cell? ⟨p0, 0, none⟩ = some (.pointer (some ⟨tb, 0, none⟩)) ∧ w.cell? ⟨p1, 0, none⟩ = some (.pointer none) ∧ w.cell? ⟨p2, 0, none⟩ = some (.int .i64 (rootOf S ox)) ∧ w.cell? ⟨p3, 0, none⟩ = some (.int .i64 (rootOf S oy)) from ⟨T, Rx, Ry, hl, c0, c1, c2, c3⟩)
  have HLT := Lib.hid T.lt
  clear T Rx Ry hl c0 c1 c2 c3
  have heq : ∀ fn fi ca w, (binOp .eql 49 (.func fn fi ca) .nilFunc).run Try.prog w = .ok (.bool false) w := fun _ _ _ _ => rfl
  go_enter Try.func11, Try.ntmps11
  go_upto_region 4 with fail
  refine wp_name (fun w1 => Blk w1 w.heap.size #[.int .i64 (-1)] 3 ∧ Blk w1 (w.heap.size + 1) #[.slice none 0 0] 43 ∧ Only [] w w1) ⟨(Blk.new _ _ _).alloc _, ?_, (Only.alloc [] _ _).trans (Only.alloc [] _ _)⟩ ?_
  · have := Blk.new (w.alloc (.cells #[.int .i64 (-1)] 3)) #[.slice none 0 0] 43
    simpa using this
  obtain ⟨nb, hnb⟩ : ∃ b, w.heap.size = b := ⟨_, rfl⟩
  have HNB := Lib.hid hnb
  obtain ⟨ob, hob⟩ : ∃ b, w.heap.size + 1 = b := ⟨_, rfl⟩
  have HOB := Lib.hid hob
  rw [hob]
  rw [hnb]
  clear hnb hob
  rintro w1 ⟨hN, hO, hX1⟩
  clear heq
  have n0 : w1.cell? ⟨nb, 0, none⟩ = some (.int .i64 (-1)) := hN.cell 0 rfl
  have n1 : ∀ o, (w1.alloc o).cell? ⟨nb, 0, none⟩ = some (.int .i64 (-1)) := fun o => (hN.alloc o).cell 0 rfl
  have n2 : ∀ o o2, ((w1.alloc o).alloc o2).cell? ⟨nb, 0, none⟩ = some (.int .i64 (-1)) := fun o o2 => ((hN.alloc o).alloc o2).cell 0 rfl
  have n3 : ∀ o o2 o3, (((w1.alloc o).alloc o2).alloc o3).cell? ⟨nb, 0, none⟩ = some (.int .i64 (-1)) := fun o o2 o3 => (((hN.alloc o).alloc o2).alloc o3).cell 0 rfl
  go_cut [8, 9, 10] (fun s8 s9 s10 wc => ∃ xb wb eb, s8 = .pointer (some ⟨xb, 0, none⟩) ∧ s9 = .pointer (some ⟨wb, 0, none⟩) ∧ s10 = .pointer (some ⟨eb, 0, none⟩) ∧ Blk wc xb #[.int .i64 0] 3 ∧ Blk wc wb #[.bool true] 4 ∧ Blk wc eb #[.bool false] 4 ∧ w1.heap.size ≤ xb ∧ w1.heap.size ≤ wb ∧ w1.heap.size ≤ eb ∧ eb ≠ wb ∧ eb ≠ xb ∧ Only [] w1 wc)
  case first =>
    go_region
    all_goals go_wp2_with fail
    all_goals go_meet
    all_goals
      refine ⟨_, _, _, rfl, rfl, rfl, ?_, ?_, ?_, by omega, by omega, by omega, by omega, by omega, (three_new _ _ _ _ _ _ _).2.2.2⟩ <;>
        first | exact (three_new _ _ _ _ _ _ _).1 | exact (three_new _ _ _ _ _ _ _).2.1 | exact (three_new _ _ _ _ _ _ _).2.2.1
  case rest =>
  obtain ⟨xb, wb, eb, rfl, rfl, rfl, hx, hw, he, l1, l2, l3, ne1, ne2, hX2⟩ := hcut
  have hob : ob < w1.heap.size := hO.lt
  have hnb : nb < w1.heap.size := hN.lt
  have hbs : nb + 1 = ob := by have := HNB.out; have := HOB.out; omega
  have hXX := hX1.trans hX2
  have hG : Got wc eb wb xb ob nb nb (.slice none 0 0) [] := ⟨he, hw, hx, hO.only hX2 (by simp), hN.only hX2 (by simp), World.ownsRow_nil _ _ _ _, ⟨by omega, by omega, by omega, ne1, ne2, by omega, by omega⟩, fun b hb => by simp [Value.ownBlock] at hb⟩
  have hge : ∀ k, k ∈ gotB eb wb xb ob nb (.slice none 0 0) → w.heap.size ≤ k := by
    intro k hk
    have := HNB.out
    have := hX1.size
    simp [gotB, Value.ownBlock] at hk
    omega
  have e0 := he.cell 0 rfl
  have HD1 := Lib.hid (diff_one (HIN.out.1.plain hXX) hG (by have := hXX.size; have := HNB.out; omega) (fun hm => by have := hge _ hm; have := HLT.out.1; omega) (fun k hk hm => by have := hge _ hm; have := HLT.out.2 _ hk; omega) HIN.out.2.1 HIN.out.2.2.1 HIN.out.2.2.2.1 (keep_cell hXX HIN.out.2.2.2.2.1) (keep_cell hXX HIN.out.2.2.2.2.2.1) (keep_cell hXX HIN.out.2.2.2.2.2.2.1) (keep_cell hXX HIN.out.2.2.2.2.2.2.2))
  have HXX := Lib.hid hXX
  have HGE := Lib.hid hge
  unfold yldV at HD1
  have hmf : ∀ (fn : Fn) (first cap : Array Value) (w : World), (Instr.makeFunc fn first cap).run Try.prog w = .ok (.func fn first cap) w := fun _ _ _ _ => rfl
  clear hx hw he hX2 hXX hG hge hN hO hX1 n0 n1 n2 n3
  go_wp2_with fail
  refine HD1.out.mono ?_
  rintro e w4 ⟨rfl, v4, hG4, hX4, hv4⟩
  have hown := hG4.own
  obtain ⟨ad, cap, rfl⟩ := own_slice_any hown
  have o0 := hG4.o.cell 0 rfl
  have x0 := hG4.x.cell 0 rfl
  have w0 := hG4.wl.cell 0 rfl
  have HOWN := Lib.hid hown
  have HX4 := Lib.hid hX4
  clear hG4 hX4 hv4 hown HD1 e0 hmf
  go_wp2_with fail
  go_quiet (fail)
  go_wp2_with fail
  go_ret3
  refine ⟨_, rfl, ?_, (HXX.out.past HX4.out (fun i hi => Or.inr (HGE.out i hi))).trans (Only.drewN _ _ _)⟩
  rw [HNB.out]
  exact ownsRow_only HOWN.out (Only.drewN [] _ _) (fun b hb => by simp)

end Go.Proofs.Ytacegkjobfeiiaa

