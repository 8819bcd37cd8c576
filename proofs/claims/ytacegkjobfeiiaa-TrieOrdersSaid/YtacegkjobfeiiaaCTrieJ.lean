/- The way down to a key as a call. Conditions: the pool stands in memory as PoolAt says, the map in it as Rep says. -/
import Derived.Deep.Onto
import Derived.Test.YtacegkjobfeiiaaCNodeX
import Derived.Test.YtacegkjobfeiiaaCHead
set_option linter.unusedVariables false
set_option linter.unusedSimpArgs false
set_option linter.unusedSectionVars false
set_option linter.unnecessarySimpa false
namespace Go.Proofs.Ytacegkjobfeiiaa
open Go.RowKit

theorem ownsRow_only {L : List Nat} {w w' : World} {base : Nat} {e : TypeId} {size : Nat} {v : Value} {n : Nat} {xs : List Value} (h : w.ownsRow base e size v n xs) (o : Only L w w') (hn : ∀ b, v.ownBlock = some b → b ∉ L) : w'.ownsRow base e size v n xs := by
  refine ⟨h.1, ?_⟩
  rcases h.2 with h1 | ⟨g, cap, cur, hv, hg, hb, hr⟩
  · exact Or.inl h1
  · exact Or.inr ⟨g, cap, cur, hv, hg, Blk.only hb o (hn g (by rw [hv]; simp [Value.ownBlock])), hr⟩

theorem ownsRow_old {w : World} {base : Nat} {e : TypeId} {size : Nat} {v : Value} {n : Nat} {xs : List Value} (h : w.ownsRow base e size v n xs) {L : List Nat} (hL : ∀ b, b ∈ L → b < base) : ∀ b, v.ownBlock = some b → b ∉ L := fun b hb hm => by
  have := (h.lt b hb).1
  have := hL b hm
  omega

theorem Blk.fill7 {w : World} {b : Nat} {z0 z1 z2 z3 z4 z5 z6 : Value} {T : TypeId} (h : Blk w b #[z0, z1, z2, z3, z4, z5, z6] T) (v0 v1 v2 v3 v4 v5 v6 : Value) :
    Blk (((((((w.setCell ⟨b, 0, none⟩ v0).setCell ⟨b, 1, none⟩ v1).setCell ⟨b, 2, none⟩ v2).setCell ⟨b, 3, none⟩ v3).setCell ⟨b, 4, none⟩ v4).setCell ⟨b, 5, none⟩ v5).setCell ⟨b, 6, none⟩ v6) b #[v0, v1, v2, v3, v4, v5, v6] T ∧
    Only [b] w (((((((w.setCell ⟨b, 0, none⟩ v0).setCell ⟨b, 1, none⟩ v1).setCell ⟨b, 2, none⟩ v2).setCell ⟨b, 3, none⟩ v3).setCell ⟨b, 4, none⟩ v4).setCell ⟨b, 5, none⟩ v5).setCell ⟨b, 6, none⟩ v6) := by
  have a0 : Blk _ b #[v0, z1, z2, z3, z4, z5, z6] T := h.set_same 0 v0
  have a1 : Blk _ b #[v0, v1, z2, z3, z4, z5, z6] T := a0.set_same 1 v1
  have a2 : Blk _ b #[v0, v1, v2, z3, z4, z5, z6] T := a1.set_same 2 v2
  have a3 : Blk _ b #[v0, v1, v2, v3, z4, z5, z6] T := a2.set_same 3 v3
  have a4 : Blk _ b #[v0, v1, v2, v3, v4, z5, z6] T := a3.set_same 4 v4
  have a5 : Blk _ b #[v0, v1, v2, v3, v4, v5, z6] T := a4.set_same 5 v5
  have a6 : Blk _ b #[v0, v1, v2, v3, v4, v5, v6] T := a5.set_same 6 v6
  exact ⟨a6, ((((((Only.setCell w (by simp) v0).trans (Only.setCell _ (by simp) v1)).trans (Only.setCell _ (by simp) v2)).trans (Only.setCell _ (by simp) v3)).trans (Only.setCell _ (by simp) v4)).trans (Only.setCell _ (by simp) v5)).trans (Only.setCell _ (by simp) v6)⟩

/-- The way, the node at its end. -/
def DownPost (S : Nat → Sl) (x : Tr) (k : Int) (w : World) (e : Ending) (w' : World) : Prop :=
  ∃ v, e = .returned (.tuple #[v, ndV S (down x k).2, .int .i64 0]) ∧ w'.ownsRow w.heap.size 137 7 v (down x k).1.length (stepsC S (down x k).1) ∧ Only [] w w'

theorem info_step : (Try.prog.info? 137).map (fun i => (i.zero, i.size, i.bytes)) = some (some (.agg #[.int .i64 0, .int .i64 0, .int .i64 0, .int .i64 0, .int .i64 0, .int .i64 0, .bool false]), 7, 56) := by kernel_rfl

def DownRel (S : Nat → Sl) (n : Nat) (x : Tr) (k : Int) (w : World) (rb nb : Nat) (g : Nat) (s12 s13 : Value) (wr : World) : Prop :=
  ∃ (y : Tr) (pre : List Stp), s12 = .int .i64 0 ∧ y.cnt = g ∧ (down x k).1 = pre ++ (down y k).1 ∧ (down x k).2 = (down y k).2 ∧ y.wf ∧ Rep n S y ∧ Blk wr nb #[.int .i64 (hnd S y), shV S y] 125 ∧ Blk wr rb #[.int .i64 0, .nilIface] 125 ∧ wr.ownsRow (nb + 1) 137 7 s13 pre.length (stepsC S pre) ∧ Only [] w wr

theorem decide_has {f k h : Int} (h1 : f ≤ k) (h2 : k ≤ h) : decide (f ≤ k ∧ k ≤ h) = true := decide_eq_true ⟨h1, h2⟩

set_option maxRecDepth 100000 in
set_option maxHeartbeats 4000000 in
theorem trie_down {A : PA} {n : Nat} {S : Nat → Sl} {t : Int} {fs : List Nat} {fa : Int} {tb : Nat} {x : Tr} {k : Int} {w : World} (T : TrAt w tb A n S t fs fa) (R : Rep n S x) (wf : x.wf) :
    Calls Try.prog 44 #[.pointer (some ⟨tb, 0, none⟩), .pointer none, .int .i64 (hnd S x), .int .i64 k] w (DownPost S x k w) := by
  have hrt := (fun w T => trie_root (w := w) (S := S) (tb := tb) (A := A) (n := n) (t := t) (fs := fs) (fa := fa) T R wf)
  obtain ⟨ty0, sv0, hsv0⟩ := shV_one S x
  simp only [ndV_agg, hsv0] at hrt
  have HRT := Lib.hid hrt
  have HSV := Lib.hid hsv0
  have HT := Lib.hid T
  have HR := Lib.hid R
  have HWF := Lib.hid wf
  obtain ⟨i0, hi0, hz0, hz1, hz2⟩ := info_parts info_step
  have HI0 := Lib.hid hi0
  clear hrt hsv0 T R wf hi0
  generalize hh0 : hnd S x = h0 at *
  have HH0 := Lib.hid hh0
  clear hh0
  go_enter Try.func44, Try.ntmps44
  go_wp2_with fail
  refine calls_name (fun w1 => TrAt w1 tb A n S t fs fa ∧ Blk w1 w.heap.size #[.int .i64 0, .nilIface] 125 ∧ Only [] w w1) ⟨HT.out.plain (Only.alloc _ _ _), Blk.new _ _ _, Only.alloc _ _ _⟩ ?_
  rintro w1 ⟨hT, hB, hO⟩
  refine (HRT.out w1 hT).mono ?_
  rintro e w2 ⟨rfl, hX⟩
  have HB2 := Lib.hid (hB.only hX (by simp))
  have HO2 := Lib.hid (hO.trans hX)
  have hlt : w.heap.size < w2.heap.size := (hB.only hX (by simp)).lt
  clear hT hB hO hX HRT
  generalize hrb : w.heap.size = rb at *
  have HRB := Lib.hid hrb
  clear hrb
  go_wp2_with fail
  generalize hnb : w2.heap.size = nb at *
  have HNB := Lib.hid hnb
  clear hnb
  go_loopg [12, 13] x.cnt (DownRel S n x k w rb nb)
  case atStart =>
    refine ⟨x, [], rfl, rfl, rfl, rfl, HWF.out, HR.out, ?_, HB2.out.alloc _, World.ownsRow_nil _ _ _ _, HO2.out.trans (Only.alloc _ _ _)⟩
    rw [HSV.out, HH0.out, ← HNB.out]
    exact Blk.new _ _ _
  case round =>
    obtain ⟨y, pre, rfl, hg, hd1, hd2, hwf, hrep, hN, hRB, hown, hO⟩ := hrel
    have HG := Lib.hid hg
    have HD1 := Lib.hid hd1
    have HD2 := Lib.hid hd2
    have HO := Lib.hid hO
    have HOWN := Lib.hid hown
    clear hg hd1 hd2 hO hown
    cases y with
    | leaf i kk vv =>
      have hta := assert_leaf kk vv
      have n1 : wr.cell? ⟨nb, 1, none⟩ = some (.iface 129 (.agg #[.int .i64 kk, .int .i64 vv])) := hN.cell 1 rfl
      unfold shV at hN
      generalize hhl : hnd S (.leaf i kk vv) = hl at *
      have HL := Lib.hid hhl
      clear hhl
      go_upto_region 6 with fail
      generalize hib : wr.heap.size = ib at *
      have HIB := Lib.hid hib
      clear hib
      refine wp_name (fun w3 => Blk w3 nb #[.int .i64 hl, .iface 129 (.agg #[.int .i64 kk, .int .i64 vv])] 125 ∧ Blk w3 rb #[.int .i64 0, .nilIface] 125 ∧ w3.ownsRow (nb + 1) 137 7 u13 pre.length (stepsC S pre) ∧ Only [] w w3) ⟨hN.alloc _, hRB.alloc _, ownsRow_only HOWN.out (Only.alloc [] _ _) (fun _ _ => by simp), HO.out.trans (Only.alloc _ _ _)⟩ ?_
      rintro w3 ⟨hN3, hR3, hown3, hO3⟩
      have HOWN3 := Lib.hid hown3
      have HO3 := Lib.hid hO3
      have k0 := hN3.cell 0 rfl
      have k1 := hN3.cell 1 rfl
      have r0 := hR3.cell 0 rfl
      have r1 := hR3.cell 1 rfl
      have f0 := hR3.free 0
      have f1 := hR3.free 1
      clear n1 hN hRB hN3 hR3 hown3 hO3 HOWN HO hta
      go_region_with (fail)
      all_goals go_wp2_with fail
      all_goals
        refine bodyPost_ret (v := .tuple #[u13, .agg #[.int .i64 hl, .iface 129 (.agg #[.int .i64 kk, .int .i64 vv])], .int .i64 0]) (by simp [results, Try.results44, go_sem, r0, r1]) rfl ⟨u13, ?_, ?_, ?_⟩
        · rw [HD2.out]; unfold ndV; rw [show down (.leaf i kk vv) k = ([], .leaf i kk vv) from rfl, HL.out]; rfl
        · rw [HD1.out, show (down (.leaf i kk vv) k).1 = [] from rfl, List.append_nil, HRB.out]
          exact (ownsRow_only (ownsRow_only (ownsRow_only HOWN3.out (Only.drew [] _) (fun _ _ => by simp)) (Only.setCell (S := [rb]) _ (by simp) _) (ownsRow_old HOWN3.out (by simp; omega))) (Only.setCell (S := [rb]) _ (by simp) _) (ownsRow_old HOWN3.out (by simp; omega))).mono (by omega)
        · exact HO3.out.past ((Only.drew [rb] _).trans ((Only.setCell (S := [rb]) _ (by simp) _).trans (Only.setCell _ (by simp) _))) (by have := HRB.out; simp; omega)
    | node i p f l r =>
      obtain ⟨hp, hq, hf0, hfM, wl, wr0, a1, a2, a3, a4⟩ := id hwf
      have hpp := pw_pos (p + 1)
      have HRK := Lib.hid (rk_children hwf)
      have HHAS := Lib.hid (fun w => trie_has p f (hnd S l) (hnd S r) ((Tr.node i p f l r).cnt : Nat) k hp ⟨hf0, by omega⟩ w)
      have HHALF := Lib.hid (fun w => inner_half p f (hnd S l) (hnd S r) ((Tr.node i p f l r).cnt : Nat) hp ⟨hf0, by omega⟩ w)
      have hta := assert_inner p f (hnd S l) (hnd S r) ((Tr.node i p f l r).cnt : Nat)
      have HUB := Lib.hid (fun b (hb : u13.ownBlock = some b) => HOWN.out.lt b hb)
      have HREP := Lib.hid hrep
      have HWF1 := Lib.hid hwf
      have hnd0 : ndV S (.node i p f l r) = .agg #[.int .i64 (hnd S (.node i p f l r)), .iface 135 (.agg #[.int .i64 p, .int .i64 f, .int .i64 (hnd S l), .int .i64 (hnd S r), .int .i64 ((Tr.node i p f l r).cnt : Nat)])] := rfl
      have hN0 : Blk wr nb #[.int .i64 (hnd S (.node i p f l r)), .iface 135 (.agg #[.int .i64 p, .int .i64 f, .int .i64 (hnd S l), .int .i64 (hnd S r), .int .i64 ((Tr.node i p f l r).cnt : Nat)])] 125 := hN
      have HND := Lib.hid hnd0
      unfold innerV at HHAS HHALF
      clear hN hnd0 hrep hwf hpp
      generalize hvl : hnd S l = vl at *
      generalize hvr : hnd S r = vr at *
      generalize hvc : (((Tr.node i p f l r).cnt : Nat) : Int) = vc at *
      generalize hhl : hnd S (.node i p f l r) = hl at *
      have HVL := Lib.hid hvl
      have HVR := Lib.hid hvr
      have HVC := Lib.hid hvc
      have HL := Lib.hid hhl
      clear hvl hvr hvc hhl
      have n1 : wr.cell? ⟨nb, 1, none⟩ = some (.iface 135 (.agg #[.int .i64 p, .int .i64 f, .int .i64 vl, .int .i64 vr, .int .i64 vc])) := hN0.cell 1 rfl
      have HWL := Lib.hid wl
      have HWR := Lib.hid wr0
      clear wl wr0 a1 a2 a3 a4 hq hfM hf0 hp
      go_upto_region 5 with fail
      generalize hib : wr.heap.size = ib at *
      have HIB := Lib.hid hib
      refine wp_name (fun w3 => Blk w3 nb #[.int .i64 hl, .iface 135 (.agg #[.int .i64 p, .int .i64 f, .int .i64 vl, .int .i64 vr, .int .i64 vc])] 125 ∧ Blk w3 rb #[.int .i64 0, .nilIface] 125 ∧ Blk w3 ib #[.int .i64 p, .int .i64 f, .int .i64 vl, .int .i64 vr, .int .i64 vc] 135 ∧ w3.ownsRow (nb + 1) 137 7 u13 pre.length (stepsC S pre) ∧ Only [] w w3) ⟨hN0.alloc _, hRB.alloc _, by rw [← hib]; exact Blk.new _ _ _, ownsRow_only HOWN.out (Only.alloc [] _ _) (fun _ _ => by simp), HO.out.trans (Only.alloc _ _ _)⟩ ?_
      rintro w3 ⟨hN3, hR3, hI3, hown3, hO3⟩
      have HOWN3 := Lib.hid hown3
      have HO3 := Lib.hid hO3
      have HN3 := Lib.hid hN3
      have HR3 := Lib.hid hR3
      have HI3 := Lib.hid hI3
      have d0 := hI3.cell 0 rfl
      have d1 := hI3.cell 1 rfl
      have d2 := hI3.cell 2 rfl
      have d3 := hI3.cell 3 rfl
      have d4 := hI3.cell 4 rfl
      clear hib n1 hN0 hRB hN3 hR3 hI3 hown3 hO3 HOWN HO hta
      by_cases hh : f ≤ k ∧ k ≤ f + pw (p + 1) - 1
      · have hhas : decide (f ≤ k ∧ k ≤ f + pw (p + 1) - 1) = true := decide_eq_true hh
        rw [hhas] at HHAS
        have HHH := Lib.hid hh
        clear hhas hh
        go_wp2_with fail
        refine (HHAS.out _).mono ?_
        rintro e w4 ⟨rfl, hX⟩
        have HN4 := Lib.hid (HN3.out.only hX (by simp))
        have HR4 := Lib.hid (HR3.out.only hX (by simp))
        have HI4 := Lib.hid (HI3.out.only hX (by simp))
        have HOWN4 := Lib.hid (ownsRow_only HOWN3.out hX (fun _ _ => by simp))
        have HO4 := Lib.hid (HO3.out.trans hX)
        have k0 := HN4.out.cell 0 rfl
        clear hX d0 d1 d2 d3 d4 HN3 HR3 HI3 HOWN3 HO3 HHAS
        go_upto_region 7 with fail
        obtain ⟨bt, hbt⟩ : ∃ bt : Bool, decide (f + pw p ≤ k) = bt := ⟨_, rfl⟩
        have HBT := Lib.hid hbt
        go_cut [16] (fun s16 wc => ∃ sb : Nat, s16 = .pointer (some ⟨sb, 0, none⟩) ∧ ib < sb ∧ Blk wc sb #[.int .i64 p, .int .i64 f, .int .i64 vl, .int .i64 vr, .int .i64 vc, .int .i64 hl, .bool bt] 137 ∧ Blk wc nb #[.int .i64 hl, .iface 135 (.agg #[.int .i64 p, .int .i64 f, .int .i64 vl, .int .i64 vr, .int .i64 vc])] 125 ∧ Blk wc rb #[.int .i64 0, .nilIface] 125 ∧ Blk wc ib #[.int .i64 p, .int .i64 f, .int .i64 vl, .int .i64 vr, .int .i64 vc] 135 ∧ Hid (wc.ownsRow (nb + 1) 137 7 u13 pre.length (stepsC S pre)) ∧ Only [] w wc)
        case first =>
              --HEADbt
              refine wp_region_head (by kernel_rfl) 9 2 (Only []) (fun i v w => (([fun v _ => v = .agg #[.int .i64 p, .int .i64 f, .int .i64 vl, .int .i64 vr, .int .i64 vc], fun v _ => v = .pointer (some ⟨nb, 0, none⟩), fun v _ => v = .int .i64 hl, fun v _ => v = .int .i64 k, fun v _ => v = .agg #[.int .i64 p, .int .i64 f, .int .i64 vl, .int .i64 vr, .int .i64 vc], fun v _ => v = .int .i64 (f + pw p), fun v _ => v = .bool bt, fun v _ => v = .agg #[.int .i64 p, .int .i64 f, .int .i64 vl, .int .i64 vr, .int .i64 vc, .int .i64 hl, .bool bt], fun v w => ∃ sb : Nat, v = .pointer (some ⟨sb, 0, none⟩) ∧ w4.heap.size ≤ sb ∧ Blk w sb #[.int .i64 0, .int .i64 0, .int .i64 0, .int .i64 0, .int .i64 0, .int .i64 0, .bool false] 137] : List (Value → World → Prop)).getD i (fun _ _ => True)) v w) (fun i => ([some 43, some 44, some 45, some 46, some 47, some 48, some 49, some 50, some 16] : List (Option Nat)).getD i none) [43, 44, 45, 46, 47, 48, 49, 50, 16] (fun w => Only.refl _ _) (fun _ _ _ h k => h.trans k) ?keep (by decide) (by kernel_rfl) (by kernel_rfl) ?hD ?hI ?hs ?hd
              case keep => exact st_getD (b := 0) ⟨(st_eq _), (st_eq _), (st_eq _), (st_eq _), (st_eq _), (st_eq _), (st_eq _), (st_eq _), (fun _ _ _ h o => by obtain ⟨sb, h1, h0, h2⟩ := h; exact ⟨sb, h1, h0, h2.only o (by simp)⟩), trivial⟩
              case hD => exact heads_in (n := 9) (l := ([some 43, some 44, some 45, some 46, some 47, some 48, some 49, some 50, some 16] : List (Option Nat))) (S := [43, 44, 45, 46, 47, 48, 49, 50, 16]) (m := 73) (by decide)
              case hI => exact heads_apart (n := 9) (l := ([some 43, some 44, some 45, some 46, some 47, some 48, some 49, some 50, some 16] : List (Option Nat))) (by decide)
              case hs =>
                refine ⟨?_, ?_, ?_, ?_, ?_, ?_, ?_, ?_, ?_, trivial⟩
                · refine ⟨rfl, Or.inl rfl, fun a w hd hF hO => ?_⟩
                  have e14 : a.eval (.tmp 14) = .pointer (some ⟨ib, 0, none⟩) := hF.same 14 (by decide)
                  have hb := (HI4.out.only (Only.drew [] _) (by simp)).only hO (by simp)
                  have c0 := hb.cell 0 rfl
                  have c1 := hb.cell 1 rfl
                  have c2 := hb.cell 2 rfl
                  have c3 := hb.cell 3 rfl
                  have c4 := hb.cell 4 rfl
                  exact s_val (v := .agg #[.int .i64 p, .int .i64 f, .int .i64 vl, .int .i64 vr, .int .i64 vc]) (e_load rfl e14 (by go_simp)) ⟨_, rfl, rfl, Only.refl _ _⟩
                · refine ⟨rfl, Or.inl rfl, fun a w hd hF hO => ?_⟩
                  have e11 : a.eval (.tmp 11) = .pointer (some ⟨nb, 0, none⟩) := hF.same 11 (by decide)
                  exact s_val (v := .pointer (some ⟨nb, 0, none⟩)) (e_field rfl e11 (by go_simp)) ⟨_, rfl, rfl, Only.refl _ _⟩
                · refine ⟨rfl, Or.inl rfl, fun a w hd hF hO => ?_⟩
                  have e44 : a.eval (.tmp 44) = .pointer (some ⟨nb, 0, none⟩) := hd 1 rfl
                  have hb := (HN4.out.only (Only.drew [] _) (by simp)).only hO (by simp)
                  have c0 := hb.cell 0 rfl
                  exact s_val (v := .int .i64 hl) (e_load rfl e44 (by go_simp)) ⟨_, rfl, rfl, Only.refl _ _⟩
                · refine ⟨rfl, Or.inl rfl, fun a w hd hF hO => ?_⟩
                  have e3 : a.eval (.tmp 3) = .int .i64 k := hF.same 3 (by decide)
                  exact s_val (e_move rfl e3) ⟨_, rfl, rfl, Only.refl _ _⟩
                · refine ⟨rfl, Or.inl rfl, fun a w hd hF hO => ?_⟩
                  have e14 : a.eval (.tmp 14) = .pointer (some ⟨ib, 0, none⟩) := hF.same 14 (by decide)
                  have hb := (HI4.out.only (Only.drew [] _) (by simp)).only hO (by simp)
                  have c0 := hb.cell 0 rfl
                  have c1 := hb.cell 1 rfl
                  have c2 := hb.cell 2 rfl
                  have c3 := hb.cell 3 rfl
                  have c4 := hb.cell 4 rfl
                  exact s_val (v := .agg #[.int .i64 p, .int .i64 f, .int .i64 vl, .int .i64 vr, .int .i64 vc]) (e_load rfl e14 (by go_simp)) ⟨_, rfl, rfl, Only.refl _ _⟩
                · refine ⟨rfl, Or.inl rfl, fun a w hd hF hO => ?_⟩
                  have e47 : a.eval (.tmp 47) = .agg #[.int .i64 p, .int .i64 f, .int .i64 vl, .int .i64 vr, .int .i64 vc] := hd 4 rfl
                  refine s_call (f := 63) (args := #[.agg #[.int .i64 p, .int .i64 f, .int .i64 vl, .int .i64 vr, .int .i64 vc]]) (by unfold execOp; simp [resolve, e47]; rfl) ?_
                  refine (HHALF.out w).mono ?_
                  rintro e w' ⟨rfl, hX⟩
                  exact ⟨_, rfl, _, rfl, rfl, hX⟩
                · refine ⟨rfl, Or.inl rfl, fun a w hd hF hO => ?_⟩
                  have e46 : a.eval (.tmp 46) = .int .i64 k := hd 3 rfl
                  have e48 : a.eval (.tmp 48) = .int .i64 (f + pw p) := hd 5 rfl
                  exact s_val (v := .bool bt) (e_bin rfl e46 e48 (by go_simp)) ⟨_, rfl, rfl, Only.refl _ _⟩
                · refine ⟨rfl, Or.inl rfl, fun a w hd hF hO => ?_⟩
                  have e43 : a.eval (.tmp 43) = .agg #[.int .i64 p, .int .i64 f, .int .i64 vl, .int .i64 vr, .int .i64 vc] := hd 0 rfl
                  have e45 : a.eval (.tmp 45) = .int .i64 hl := hd 2 rfl
                  have e49 : a.eval (.tmp 49) = .bool bt := hd 6 rfl
                  exact s_val (v := .agg #[.int .i64 p, .int .i64 f, .int .i64 vl, .int .i64 vr, .int .i64 vc, .int .i64 hl, .bool bt]) (by generalize a.eval = ev at *; unfold execOp; simp [go_sem, e43, e45, e49] <;> rfl) ⟨_, rfl, rfl, Only.refl _ _⟩
                · refine ⟨rfl, Or.inl rfl, fun a w hd hF hO => ?_⟩
                  exact s_valw (v := .pointer (some ⟨w.heap.size, 0, none⟩)) (w' := w.alloc (.cells #[.int .i64 0, .int .i64 0, .int .i64 0, .int .i64 0, .int .i64 0, .int .i64 0, .bool false] 137)) (by unfold execOp; simp [go_sem]) ⟨_, rfl, ⟨w.heap.size, rfl, hO.size, Blk.new _ _ _⟩, Only.alloc _ _ _⟩
              case hd =>
                intro a w' hP hF hO
                have q43 : sl a 43 = .agg #[.int .i64 p, .int .i64 f, .int .i64 vl, .int .i64 vr, .int .i64 vc] := hP 0 (by decide)
                have q44 : sl a 44 = .pointer (some ⟨nb, 0, none⟩) := hP 1 (by decide)
                have q45 : sl a 45 = .int .i64 hl := hP 2 (by decide)
                have q46 : sl a 46 = .int .i64 k := hP 3 (by decide)
                have q47 : sl a 47 = .agg #[.int .i64 p, .int .i64 f, .int .i64 vl, .int .i64 vr, .int .i64 vc] := hP 4 (by decide)
                have q48 : sl a 48 = .int .i64 (f + pw p) := hP 5 (by decide)
                have q49 : sl a 49 = .bool bt := hP 6 (by decide)
                have q50 : sl a 50 = .agg #[.int .i64 p, .int .i64 f, .int .i64 vl, .int .i64 vr, .int .i64 vc, .int .i64 hl, .bool bt] := hP 7 (by decide)
                have q16 := hP 8 (by decide)
                rw [hF.eq]
                simp only [List.foldl_cons, List.foldl_nil, q43, q44, q45, q46, q47, q48, q49, q50]
              --ENDHEADbt
                obtain ⟨sb, hsb, hsl, hZ⟩ := q16
                have hsb : sl a 16 = .pointer (some ⟨sb, 0, none⟩) := hsb
                rw [hsb]
                have z0 := hZ.cell 0 rfl
                have z1 := hZ.cell 1 rfl
                have z2 := hZ.cell 2 rfl
                have z3 := hZ.cell 3 rfl
                have z4 := hZ.cell 4 rfl
                have z5 := hZ.cell 5 rfl
                have z6 := hZ.cell 6 rfl
                have g0 := hZ.free 0
                have g1 := hZ.free 1
                have g2 := hZ.free 2
                have g3 := hZ.free 3
                have g4 := hZ.free 4
                have g5 := hZ.free 5
                have g6 := hZ.free 6
                have HZ := Lib.hid hZ
                have HOQ := Lib.hid hO
                clear hZ hO hP hF q43 q44 q45 q46 q47 q48 q49 q50 hsb hbt
                go_wp2_with fail
                go_meet
                have h7 := HZ.out.fill7 (.int .i64 p) (.int .i64 f) (.int .i64 vl) (.int .i64 vr) (.int .i64 vc) (.int .i64 hl) (.bool bt)
                have hq := (Only.drew [] w4).trans HOQ.out
                have n1 := HN4.out.lt
                have n2 := HR4.out.lt
                have n3 := HI4.out.lt
                exact ⟨sb, rfl, by omega, h7.1, (HN4.out.only hq (by simp)).only h7.2 (by simp; omega), (HR4.out.only hq (by simp)).only h7.2 (by simp; omega), (HI4.out.only hq (by simp)).only h7.2 (by simp; omega), Lib.hid (ownsRow_only (ownsRow_only HOWN4.out hq (fun _ _ => by simp)) h7.2 (fun b hb => by have := (HOWN4.out.lt b hb).2; simp; omega)), (HO4.out.trans hq).past h7.2 (by have := HO4.out.size; simp; omega)⟩
        case rest =>
          obtain ⟨sb, rfl, hsib, hS5, hN5, hR5, hI5, HOWN5, hO5⟩ := hcut
          have hpl : pre.length + 1 ≤ 64 := by
            have h1 := HD1.out
            have h2 := down_len x k HWF.out
            have h3 := rk_le HWF.out
            rw [h1, List.length_append] at h2
            omega
          have s0 := hS5.cell 0 rfl
          have s1 := hS5.cell 1 rfl
          have s2 := hS5.cell 2 rfl
          have s3 := hS5.cell 3 rfl
          have s4 := hS5.cell 4 rfl
          have s5 := hS5.cell 5 rfl
          have s6 := hS5.cell 6 rfl
          have hrs := hR5.lt
          have HS5 := Lib.hid hS5
          have HN5 := Lib.hid hN5
          have HR5 := Lib.hid hR5
          have HI5 := Lib.hid hI5
          have HO5 := Lib.hid hO5
          have hi0 := HI0.out
          have hnb5 : nb + 1 ≤ wc.heap.size := hN5.lt
          clear hS5 hN5 hR5 hI5 hO5 k0 HN4 HR4 HI4 HOWN4 HO4 hbt HHALF
          go_wp2_with (at_builtin; refine wpList_append_own _ rfl (.tmp 51) (.tmp 53) 121 rfl (nb + 1) 137 i0 _ 7 56 Try.underlying121 hi0 hz0 hz1 hz2 rfl (by decide) _ _ _ rfl (HOWN5.out.alloc _) ⟨wc.heap.size, 0, none⟩ 1 1 [.int .i64 p, .int .i64 f, .int .i64 vl, .int .i64 vr, .int .i64 vc, .int .i64 hl, .bool bt] rfl rfl (cells_seven _ _ _ _ _ _ _ _ _) (fun u hu => by simp at hu; rcases hu with rfl | rfl | rfl | rfl | rfl | rfl | rfl <;> rfl) (by unfold maxLen; omega) (by omega) (by simp; omega) ?_)
          intro v' w6 hown6 hg6 _
          have hX6 : Only u13.ownBlock.toList wc w6 := (Only.alloc _ _ _).trans (Only.of_grown hg6 (by intro k hk; simp [hk]))
          have hub : ∀ b, b ∈ u13.ownBlock.toList → nb < b ∧ b < ib := fun b hb => by
            have h1 := HUB.out b (by simpa using hb)
            omega
          have hS6 := HS5.out.only hX6 (fun hm => by have := hub _ hm; omega)
          have HN6 := Lib.hid (HN5.out.only hX6 (fun hm => by have := hub _ hm; omega))
          have HR6 := Lib.hid (HR5.out.only hX6 (fun hm => by have := hub _ hm; omega))
          have hI6 := HI5.out.only hX6 (fun hm => by have := hub _ hm; omega)
          have HO6 := Lib.hid (HO5.out.past hX6 (by intro b hb; right; have := hub _ hb; have := HRB.out; omega))
          have HOWN6 := Lib.hid hown6
          have t6 := hS6.cell 6 rfl
          have d0 := hI6.cell 0 rfl
          have d1 := hI6.cell 1 rfl
          have d2 := hI6.cell 2 rfl
          have d3 := hI6.cell 3 rfl
          have d4 := hI6.cell 4 rfl
          have HTO := Lib.hid (fun w6 (h : Only [] w w6) => HT.out.plain h)
          clear hown6 hg6 hX6 hub hS6 hI6 s0 s1 s2 s3 s4 s5 s6 hi0 HS5 HN5 HR5 HI5 HO5 HOWN5 hrs
          cases bt
          · have hdn : down (.node i p f l r) k = (⟨i, p, f, l, r, false⟩ :: (down l k).1, (down l k).2) := down_left HHH.out (by simpa using HBT.out)
            have HDN := Lib.hid hdn
            have hcr := (fun w T => trie_left (w := w) (S := S) (tb := tb) (A := A) (n := n) (t := t) (fs := fs) (fa := fa) T HREP.out HWF1.out vr vc)
            obtain ⟨ty, sv, hsv⟩ := shV_one S l
            simp only [ndV_agg, hsv, HVL.out] at hcr
            have HCR := Lib.hid hcr
            have HSV1 := Lib.hid hsv
            clear hcr hsv hdn
            unfold innerV at HCR
            go_wp2_with fail
            refine (HCR.out _ (HTO.out _ HO6.out)).mono ?_
            rintro e w7 ⟨rfl, hX7⟩
            have hN7 := HN6.out.only hX7 (by simp)
            have HN7 := Lib.hid hN7
            have HR7 := Lib.hid (HR6.out.only hX7 (by simp))
            have HOWN7 := Lib.hid (ownsRow_only HOWN6.out hX7 (fun _ _ => by simp))
            have HO7 := Lib.hid (HO6.out.trans hX7)
            have f0 := hN7.free 0
            have f1 := hN7.free 1
            have k0 := hN7.cell 0 rfl
            have k1 := hN7.cell 1 rfl
            clear hX7 hN7 t6 d0 d1 d2 d3 d4 HN6 HR6 HOWN6 HO6 HCR
            go_wp2_with fail
            go_roundg l.cnt
            case measure => have := HG.out; simp only [Tr.cnt] at this; have := Tr.cnt_pos r; omega
            case rel =>
              have hX8 : Only [nb] w7 ((w7.setCell ⟨nb, 0, none⟩ (.int .i64 vl)).setCell ⟨nb, 1, none⟩ (.iface ty sv)) := (Only.setCell _ (by simp) _).trans (Only.setCell _ (by simp) _)
              refine ⟨l, pre ++ [⟨i, p, f, l, r, false⟩], rfl, rfl, by rw [HD1.out, HDN.out]; simp, by rw [HD2.out, HDN.out], HWL.out, HREP.out.2.2.2.2.2.1, ?_, HR7.out.only hX8 (by simp; omega), ?_, HO7.out.past hX8 (by have := HRB.out; simp; omega)⟩
              · rw [HVL.out, HSV1.out]
                exact (HN7.out.set_same 0 (.int .i64 vl)).set_same 1 (.iface ty sv)
              · rw [stepsC_snoc, List.length_append]
                have := ownsRow_only HOWN7.out hX8 (ownsRow_old HOWN7.out (by simp))
                have e : stepC S ⟨i, p, f, l, r, false⟩ = [.int .i64 p, .int .i64 f, .int .i64 vl, .int .i64 vr, .int .i64 vc, .int .i64 hl, .bool false] := by
                  unfold stepC Stp.whole; rw [← HVL.out, ← HVR.out, ← HVC.out, ← HL.out]
                rw [e]; exact this
          · have hdn : down (.node i p f l r) k = (⟨i, p, f, l, r, true⟩ :: (down r k).1, (down r k).2) := down_right HHH.out (by simpa using HBT.out)
            have HDN := Lib.hid hdn
            have hcr := (fun w T => trie_right (w := w) (S := S) (tb := tb) (A := A) (n := n) (t := t) (fs := fs) (fa := fa) T HREP.out HWF1.out vl vc)
            obtain ⟨ty, sv, hsv⟩ := shV_one S r
            simp only [ndV_agg, hsv, HVR.out] at hcr
            have HCR := Lib.hid hcr
            have HSV1 := Lib.hid hsv
            clear hcr hsv hdn
            unfold innerV at HCR
            go_wp2_with fail
            refine (HCR.out _ (HTO.out _ HO6.out)).mono ?_
            rintro e w7 ⟨rfl, hX7⟩
            have hN7 := HN6.out.only hX7 (by simp)
            have HN7 := Lib.hid hN7
            have HR7 := Lib.hid (HR6.out.only hX7 (by simp))
            have HOWN7 := Lib.hid (ownsRow_only HOWN6.out hX7 (fun _ _ => by simp))
            have HO7 := Lib.hid (HO6.out.trans hX7)
            have f0 := hN7.free 0
            have f1 := hN7.free 1
            have k0 := hN7.cell 0 rfl
            have k1 := hN7.cell 1 rfl
            clear hX7 hN7 t6 d0 d1 d2 d3 d4 HN6 HR6 HOWN6 HO6 HCR
            go_wp2_with fail
            go_roundg r.cnt
            case measure => have := HG.out; simp only [Tr.cnt] at this; have := Tr.cnt_pos l; omega
            case rel =>
              have hX8 : Only [nb] w7 ((w7.setCell ⟨nb, 0, none⟩ (.int .i64 vr)).setCell ⟨nb, 1, none⟩ (.iface ty sv)) := (Only.setCell _ (by simp) _).trans (Only.setCell _ (by simp) _)
              refine ⟨r, pre ++ [⟨i, p, f, l, r, true⟩], rfl, rfl, by rw [HD1.out, HDN.out]; simp, by rw [HD2.out, HDN.out], HWR.out, HREP.out.2.2.2.2.2.2, ?_, HR7.out.only hX8 (by simp; omega), ?_, HO7.out.past hX8 (by have := HRB.out; simp; omega)⟩
              · rw [HVR.out, HSV1.out]
                exact (HN7.out.set_same 0 (.int .i64 vr)).set_same 1 (.iface ty sv)
              · rw [stepsC_snoc, List.length_append]
                have := ownsRow_only HOWN7.out hX8 (ownsRow_old HOWN7.out (by simp))
                have e : stepC S ⟨i, p, f, l, r, true⟩ = [.int .i64 p, .int .i64 f, .int .i64 vl, .int .i64 vr, .int .i64 vc, .int .i64 hl, .bool true] := by
                  unfold stepC Stp.whole; rw [← HVL.out, ← HVR.out, ← HVC.out, ← HL.out]
                rw [e]; exact this
      · have hdn : down (.node i p f l r) k = ([], .node i p f l r) := down_out hh
        have hhas : decide (f ≤ k ∧ k ≤ f + pw (p + 1) - 1) = false := decide_eq_false hh
        rw [hhas] at HHAS
        have HDN := Lib.hid hdn
        clear hdn hhas hh
        as_aux_lemma =>
          go_wp2_with fail
          refine (HHAS.out _).mono ?_
          rintro e w4 ⟨rfl, hX⟩
          have hN4 := HN3.out.only hX (by simp)
          have hR4 := HR3.out.only hX (by simp)
          have HOWN4 := Lib.hid (ownsRow_only HOWN3.out hX (fun _ _ => by simp))
          have HO4 := Lib.hid (HO3.out.trans hX)
          have k0 := hN4.cell 0 rfl
          have k1 := hN4.cell 1 rfl
          have r0 := hR4.cell 0 rfl
          have r1 := hR4.cell 1 rfl
          have f0 := hR4.free 0
          have f1 := hR4.free 1
          clear hX d0 d1 d2 d3 d4 HN3 HR3 HI3 HOWN3 HO3 HHAS hN4 hR4
          go_upto_region 6 with fail
          go_region_with (fail)
          all_goals go_wp2_with fail
          all_goals
            refine bodyPost_ret (v := .tuple #[u13, .agg #[.int .i64 hl, .iface 135 (.agg #[.int .i64 p, .int .i64 f, .int .i64 vl, .int .i64 vr, .int .i64 vc])], .int .i64 0]) (by simp [results, Try.results44, go_sem, r0, r1]) rfl ⟨u13, ?_, ?_, ?_⟩
            · rw [HD2.out, HDN.out]
              exact congrArg (fun z => Ending.returned (.tuple #[u13, z, .int .i64 0])) HND.out.symm
            · rw [HD1.out, HDN.out, List.append_nil, HRB.out]
              exact (ownsRow_only (ownsRow_only (ownsRow_only HOWN4.out (Only.drew [] _) (fun _ _ => by simp)) (Only.setCell (S := [rb]) _ (by simp) _) (ownsRow_old HOWN4.out (by simp; omega))) (Only.setCell (S := [rb]) _ (by simp) _) (ownsRow_old HOWN4.out (by simp; omega))).mono (by omega)
            · exact HO4.out.past ((Only.drew [rb] _).trans ((Only.setCell (S := [rb]) _ (by simp) _).trans (Only.setCell _ (by simp) _))) (by have := HRB.out; simp; omega)

end Go.Proofs.Ytacegkjobfeiiaa

