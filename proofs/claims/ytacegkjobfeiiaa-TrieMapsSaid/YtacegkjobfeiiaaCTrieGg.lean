/- TrieMaps walked: a row of changes, what is shared, what each version tells. Conditions: the changes stand in memory as ChgsAt says, the pool's size is a size. -/
import Derived.Test.YtacegkjobfeiiaaCVersX
import Derived.Test.YtacegkjobfeiiaaCTellX
import Derived.Test.YtacegkjobfeiiaaCTrieGf
set_option linter.unusedVariables false
set_option linter.unusedSimpArgs false
set_option linter.unusedSectionVars false
set_option linter.unnecessarySimpa false
namespace Go.Proofs.Ytacegkjobfeiiaa
open Go.RowKit

set_option maxRecDepth 100000 in
set_option maxHeartbeats 16000000 in
theorem maps_core {n len lb lo cap : Nat} {O : Nat → Chg} {a b : Int} (hn1 : 1 ≤ n) (hn2 : n ≤ 4096) (hlen : len ≤ 120) (w : World) (hO : ChgsAt w lb lo len O) {ad : Option Addr} (had : 0 < len → ad = some ⟨lb, lo, none⟩) :
    Calls Try.prog 4 #[.int .i64 n, .slice ad len cap, .int .i64 a, .int .i64 b] w fun e w' => e = .returned (.bool true) ∧ Only [] w w' := by
  have HO := Lib.hid hO
  have HAD := Lib.hid had
  have HNN := Lib.hid (And.intro hn1 hn2)
  clear hO had
  have hnl : (1 : Int) ≤ n := by omega
  have hnh : (n : Int) ≤ 4096 := by omega
  go_enter Try.func4, Try.ntmps4
  go_wp2_with fail
  refine (tr_known w).mono ?_
  rintro e w1 ⟨rfl, hX1⟩
  have HX1 := Lib.hid hX1
  clear hX1
  go_wp2_with fail
  refine (pool_new n HNN.out.1 HNN.out.2 w1).mono ?_
  rintro e w2 ⟨A, rfl, hP, hX2, hA⟩
  have HX2 := Lib.hid (HX1.out.trans hX2)
  have HA : Hid (∀ k, k ∈ A.all → w.heap.size ≤ k) := Lib.hid (fun k hk => Nat.le_trans HX1.out.size (hA k hk))
  have HP := Lib.hid hP
  clear hP hX2 hA HX1 hnl hnh
  go_wp2_with (go_at_call 8; refine (num_12 _ _).mono ?_; rintro e w' ⟨rfl, rfl⟩)
  refine (trie_new HP.out).mono ?_
  rintro e w3 ⟨rfl, hT, hX3⟩
  obtain ⟨tb, htb⟩ : ∃ b, w2.heap.size = b := ⟨_, rfl⟩
  rw [htb] at hT ⊢
  have HT := Lib.hid hT
  have HX3 := Lib.hid (HX2.out.trans hX3)
  clear hT hX3 htb HP HX2
  go_upto_region 10 with fail
  obtain ⟨base, hbase⟩ : ∃ x, w3.heap.size = x := ⟨_, rfl⟩
  refine wp_name (fun w4 => Vs A n tb base 0 (fun _ => slot0) 0 (List.range' 1 n) 0 [⟨none, base, none, 0⟩] (.slice (some ⟨base, 0, none⟩) 1 1) w4 ∧ Only [] w3 w4) ?_ ?_
  · have hl := HT.out.lt
    refine ⟨⟨HT.out.plain (Only.alloc _ _ _), ⟨List.nodup_range', fun i hi => ?_, fun i => by simp [slot0]⟩, ⟨fun k hk => by have := hl.2 k hk; omega, by omega⟩, by omega, by omega, ?_, ?_, by simp, ?_, by simp⟩, Only.alloc _ _ _⟩
    · have := List.mem_range'.1 hi
      obtain ⟨j, hj, rfl⟩ := this
      simp [slot0]; omega
    · intro V hV
      simp at hV
      subst hV
      exact ⟨trivial, ⟨Or.inl ⟨rfl, rfl⟩, Nat.le_refl _, fun j u hu => by simp [prs, prsC] at hu⟩, Nat.le_refl _, by simp [prs], fun h => absurd rfl h⟩
    · refine ⟨rfl, Or.inr ⟨base, 1, #[.int .i64 0, .slice none 0 0], rfl, Nat.le_refl _, ?_, Nat.le_refl _, by unfold maxLen; omega, rfl, rfl⟩⟩
      rw [← hbase]
      exact Blk.new w3 #[.int .i64 0, .slice none 0 0] 33
    · intro V hV h
      simp at hV
      subst hV
      exact absurd rfl h
  rw [hbase]
  rintro w4 ⟨hV4, hX4⟩
  have HX4 := Lib.hid (HX3.out.mono (by simp) |>.trans hX4 : Only [] w w4)
  have HLW : Hid (w.heap.size ≤ base) := Lib.hid (by have := HX3.out.size; omega)
  have HV4 := Lib.hid hV4
  clear hV4 hX4 hbase HT HX3
  have hez := edit_zero
  obtain ⟨iv, hiv, hz0, hz1, hz2⟩ := info_parts info_version
  have HIV := Lib.hid (And.intro hiv (And.intro hz0 (And.intro hz1 hz2)))
  clear hiv hz0 hz1 hz2
  go_wp2_with fail
  go_loopg [12, 13, 14, 15, 16, 17] len (fun gk s12 s13 s14 s15 s16 s17 wr => ∃ (i : Nat) (S : Nat → Sl) (t : Int) (fs : List Nat) (c : Int) (vs : List Ve), i + gk = len ∧ s13 = .int .i64 (i : Nat) ∧ Vs A n tb base i S t fs c vs s12 wr ∧ (∀ V, V ∈ vs → (slotsO V.ox).Nodup) ∧ Only [] w wr)
  case atStart => exact ⟨0, _, _, _, _, _, by omega, rfl, HV4.out, fun V hV => by simp at hV; subst hV; exact List.nodup_nil, HX4.out⟩
  case round =>
    clear HV4 HX4
    obtain ⟨i, S, t, fs, c, vs, hi, rfl, hV, hND, hXr⟩ := hrel
    obtain ⟨g, vcap, rfl, hgb, hgl, hnc, hcells⟩ := hV.open
    have HI := Lib.hid hi
    have HV := Lib.hid hV
    have HND := Lib.hid hND
    have HXR := Lib.hid hXr
    obtain ⟨nv, hnv⟩ : ∃ nv, vs.length = nv := ⟨_, rfl⟩
    have hnv1 : 1 ≤ nv := by have := hV.one; omega
    have hnv2 : nv ≤ i + 1 := by have := hV.many; omega
    have HNV := Lib.hid hnv
    clear hND
    by_cases hlt : i < len
    --ARM1
    · obtain rfl := HAD.out (by omega)
      obtain ⟨l0, l1, l2, l3⟩ := HO.out i hlt
      obtain ⟨j, hj, hm1, hm2, hm3⟩ := place_of (O i).of nv hnv1 (by omega)
      obtain ⟨V, hVj⟩ : ∃ V, vs[j]? = some V := ⟨_, List.getElem?_eq_getElem (by omega)⟩
      obtain ⟨v0, v1⟩ := hcells j V hVj
      have HVM := Lib.hid (List.mem_of_getElem? hVj)
      have HSTEP : Hid (∀ W, Only [] wr W → Calls Try.prog 10 #[.pointer (some ⟨A.p, 0, none⟩), .pointer (some ⟨tb, 0, none⟩), .agg #[.int .i64 (rootOf S V.ox), .slice V.ao (prs V.ox).length V.cap], .agg #[.int .i64 (O i).of, .int .i64 (O i).k, .int .i64 (O i).v, .bool (O i).d]] W (StepX A n tb base i S vs V (.slice (some ⟨g, 0, none⟩) nv vcap) W)) := Lib.hid (fun W o => step_changed_x (ch := O i) (by rw [← hnv]; exact hV.plain o) HNN.out.2 (by omega) (List.mem_of_getElem? hVj) (by have := hV.own.lt g (by simp [Value.ownBlock]); have := o.size; omega))
      have hlbw : ∀ jj u, w.cell? ⟨lb, jj, none⟩ = some u → lb < w.heap.size := fun jj u h => by
        rcases Nat.lt_or_ge lb w.heap.size with hl | hl
        · exact hl
        · simp [World.cell?, Array.getElem?_eq_none hl] at h
      have hlb := hlbw _ _ l0
      have HLB : Hid (lb ∉ A.all ∧ g ∉ A.all ∧ lb < wr.heap.size) := Lib.hid ⟨fun hm => by have := HA.out _ hm; omega, fun hm => by have := hV.low.1 _ hm; omega, by have := hXr.size; omega⟩
      have l0 := keep_cell hXr l0
      have l1 := keep_cell hXr l1
      have l2 := keep_cell hXr l2
      have l3 := keep_cell hXr l3
      rw [hnv] at hnc ⊢
      obtain ⟨xo, hxo⟩ : ∃ u, (O i).of = u := ⟨_, rfl⟩
      obtain ⟨xk, hxk⟩ : ∃ u, (O i).k = u := ⟨_, rfl⟩
      obtain ⟨xv, hxv⟩ : ∃ u, (O i).v = u := ⟨_, rfl⟩
      obtain ⟨xd, hxd⟩ : ∃ u, (O i).d = u := ⟨_, rfl⟩
      obtain ⟨rt, hrt⟩ : ∃ u, rootOf S V.ox = u := ⟨_, rfl⟩
      obtain ⟨pl, hpl⟩ : ∃ u, (prs V.ox).length = u := ⟨_, rfl⟩
      obtain ⟨va, hva⟩ : ∃ u, V.ao = u := ⟨_, rfl⟩
      obtain ⟨vc, hvc⟩ : ∃ u, V.cap = u := ⟨_, rfl⟩
      have HRT := Lib.hid hrt
      rw [hxo, hxk, hxv, hxd, hrt, hpl, hva, hvc] at HSTEP
      rw [hxo] at l0 hm1 hm2 hm3
      rw [hxk] at l1
      rw [hxv] at l2
      rw [hxd] at l3
      rw [hrt] at v0
      rw [hpl, hva, hvc] at v1
      have hii : (i : Int) < len := by omega
      have hjj : (j : Int) < nv := by omega
      have hn0 : ¬ ((nv : Int) = 0) := by omega
      have hn1 : ¬ (nv = 0) := by omega
      obtain ⟨T1, hT1⟩ : ∃ u, xo.tmod (nv : Int) = u := ⟨_, rfl⟩
      rw [hT1] at hm1 hm2 hm3
      have hw1 : IntKind.i64.wrap T1 = T1 := IntWalk.i64_in _ ⟨by omega, by omega⟩
      have hw2 : IntKind.i64.wrap (T1 + (nv : Int)) = T1 + (nv : Int) := IntWalk.i64_in _ ⟨by omega, by omega⟩
      have hw3 : IntKind.i64.wrap (j : Int) = (j : Int) := IntWalk.i64_in _ ⟨by omega, by omega⟩
      clear hlbw hlb hcells hVj hV hXr hnv hxo hxk hxv hxd hrt hpl hva hvc hi
      go_upto_region 14 with fail
      refine wp_name (fun wa => Blk wa wr.heap.size #[.int .i64 rt, .slice va pl vc] 33 ∧ Only [] wr wa) ⟨Blk.new _ _ _, Only.alloc _ _ _⟩ ?_
      obtain ⟨ob, hob⟩ : ∃ q, wr.heap.size = q := ⟨_, rfl⟩
      have HOB := Lib.hid hob
      rw [hob]
      clear hob
      rintro wa ⟨hOB, hXa⟩
      have HSC : Hid (∀ X W, Only X wr W → lb ∉ X → g ∉ X → W.cell? ⟨lb, lo + i * 4, none⟩ = some (.int .i64 xo) ∧ W.cell? ⟨lb, lo + i * 4 + 1, none⟩ = some (.int .i64 xk) ∧ W.cell? ⟨lb, lo + i * 4 + 2, none⟩ = some (.int .i64 xv) ∧ W.cell? ⟨lb, lo + i * 4 + 3, none⟩ = some (.bool xd)) := Lib.hid (fun X W o h1 h2 => ⟨keep_off o h1 l0, keep_off o h1 l1, keep_off o h1 l2, keep_off o h1 l3⟩)
      have HOBK := Lib.hid hOB
      have HXA := Lib.hid hXa
      have HSI : Hid (ob < wa.heap.size ∧ (∀ k, k ∈ A.all → k < ob) ∧ wr.heap.size ≤ wa.heap.size ∧ g < ob) := Lib.hid ⟨hOB.lt, fun k hk => by have := HV.out.tr.lt.2 k hk; have := HOB.out; omega, hXa.size, by have := HOB.out; omega⟩
      clear hOB hXa l0 l1 l2 l3 v0 v1
      go_cut [15, 16, 17] (fun s15 s16 s17 wc => ∃ (S8 : Nat → Sl) (t8 : Int) (fs8 : List Nat) (c8 : Int) (db : Nat) (e0 e1 : Int) (e2 : Bool) (ga ma : Option Addr) (gl gc ml mc : Nat) (po : Option Addr), s15 = .pointer po ∧ s16 = .pointer (some ⟨db, 0, none⟩) ∧ s17 = .bool true ∧ Blk wc db #[.int .i64 e0, .int .i64 e1, .bool e2, .slice ga gl gc, .slice ma ml mc] 38 ∧ Blk wc ob #[.int .i64 rt, .slice va pl vc] 33 ∧
        Vs A n tb base (i + 1) S8 t8 fs8 c8 vs (.slice (some ⟨g, 0, none⟩) nv vcap) wc ∧ Only [] w wc ∧ wr.heap.size ≤ wc.heap.size ∧ rootOf S8 V.ox = rt ∧
        (po = none ∨ ∃ V8 vb gs mk rest gg gm, po = some ⟨vb, 0, none⟩ ∧ VeOk n S8 base (i + 1) wc V8 ∧ wr.heap.size ≤ V8.g ∧ Blk wc vb #[.int .i64 (rootOf S8 V8.ox), .slice V8.ao (prs V8.ox).length V8.cap] 33 ∧
          gl = gs.length ∧ ml = mk.length ∧ IntRow wc ga gg gc (hnds S8 gs) ∧ IntRow wc ma gm mc (hnds S8 mk) ∧ (slotsO V.ox).Perm (gs ++ rest) ∧ (slotsO V8.ox).Perm (mk ++ rest) ∧ ((slotsO V.ox).Nodup → (slotsO V8.ox).Nodup) ∧ ml ≤ gl + 2 ∧ ml ≤ 34))
      case first =>
        have HOX : Hid (∀ W, Only A.all wa W → Blk W ob #[.int .i64 rt, .slice va pl vc] 33) := Lib.hid (fun W o => HOBK.out.only o (fun hm => by have := HSI.out.2.1 _ hm; omega))
        have HKS : Hid (∀ W, Only A.all wa W → W.cell? ⟨lb, lo + i * 4, none⟩ = some (.int .i64 xo) ∧ W.cell? ⟨lb, lo + i * 4 + 1, none⟩ = some (.int .i64 xk) ∧ W.cell? ⟨lb, lo + i * 4 + 2, none⟩ = some (.int .i64 xv) ∧ W.cell? ⟨lb, lo + i * 4 + 3, none⟩ = some (.bool xd) ∧ W.cell? ⟨ob, 0, none⟩ = some (.int .i64 rt) ∧ W.cell? ⟨ob, 1, none⟩ = some (.slice va pl vc)) := Lib.hid (fun W o => by
          obtain ⟨h0, h1, h2, h3⟩ := HSC.out A.all W ((HXA.out.mono (by simp)).trans o) HLB.out.1 HLB.out.2.1
          exact ⟨h0, h1, h2, h3, (HOX.out W o).cell 0 rfl, (HOX.out W o).cell 1 rfl⟩)
        have HOA : Hid (Only A.all wa (wa.alloc (.cells #[.int .i64 0, .int .i64 0, .bool false, .slice none 0 0, .slice none 0 0] 38)).drew) := Lib.hid ((Only.alloc _ wa _).trans (Only.drew _ _))
        have HOA0 : Hid (Only [] wa (wa.alloc (.cells #[.int .i64 0, .int .i64 0, .bool false, .slice none 0 0, .slice none 0 0] 38)).drew) := Lib.hid ((Only.alloc _ wa _).trans (Only.drew _ _))
        have HZ : Hid (Blk (wa.alloc (.cells #[.int .i64 0, .int .i64 0, .bool false, .slice none 0 0, .slice none 0 0] 38)).drew wa.heap.size #[.int .i64 0, .int .i64 0, .bool false, .slice none 0 0, .slice none 0 0] 38) := Lib.hid (Blk.new wa _ _).drew
        obtain ⟨d0, d1, d2, d3, d4, d5⟩ := HKS.out wa.drew (Only.drew _ _)
        have HS5 : Hid (∀ (W : World) (x0 x1 x2 x3 x4 : Value), Only A.all wa W → (((((W.setCell ⟨wa.heap.size, 0, none⟩ x0).setCell ⟨wa.heap.size, 1, none⟩ x1).setCell ⟨wa.heap.size, 2, none⟩ x2).setCell ⟨wa.heap.size, 3, none⟩ x3).setCell ⟨wa.heap.size, 4, none⟩ x4).cell? ⟨lb, lo + i * 4, none⟩ = some (.int .i64 xo) ∧ (((((W.setCell ⟨wa.heap.size, 0, none⟩ x0).setCell ⟨wa.heap.size, 1, none⟩ x1).setCell ⟨wa.heap.size, 2, none⟩ x2).setCell ⟨wa.heap.size, 3, none⟩ x3).setCell ⟨wa.heap.size, 4, none⟩ x4).cell? ⟨lb, lo + i * 4 + 1, none⟩ = some (.int .i64 xk) ∧ (((((W.setCell ⟨wa.heap.size, 0, none⟩ x0).setCell ⟨wa.heap.size, 1, none⟩ x1).setCell ⟨wa.heap.size, 2, none⟩ x2).setCell ⟨wa.heap.size, 3, none⟩ x3).setCell ⟨wa.heap.size, 4, none⟩ x4).cell? ⟨lb, lo + i * 4 + 2, none⟩ = some (.int .i64 xv) ∧ (((((W.setCell ⟨wa.heap.size, 0, none⟩ x0).setCell ⟨wa.heap.size, 1, none⟩ x1).setCell ⟨wa.heap.size, 2, none⟩ x2).setCell ⟨wa.heap.size, 3, none⟩ x3).setCell ⟨wa.heap.size, 4, none⟩ x4).cell? ⟨lb, lo + i * 4 + 3, none⟩ = some (.bool xd) ∧ (((((W.setCell ⟨wa.heap.size, 0, none⟩ x0).setCell ⟨wa.heap.size, 1, none⟩ x1).setCell ⟨wa.heap.size, 2, none⟩ x2).setCell ⟨wa.heap.size, 3, none⟩ x3).setCell ⟨wa.heap.size, 4, none⟩ x4).cell? ⟨ob, 0, none⟩ = some (.int .i64 rt) ∧ (((((W.setCell ⟨wa.heap.size, 0, none⟩ x0).setCell ⟨wa.heap.size, 1, none⟩ x1).setCell ⟨wa.heap.size, 2, none⟩ x2).setCell ⟨wa.heap.size, 3, none⟩ x3).setCell ⟨wa.heap.size, 4, none⟩ x4).cell? ⟨ob, 1, none⟩ = some (.slice va pl vc)) := by
          refine Lib.hid (fun W x0 x1 x2 x3 x4 o => HKS.out _ (o.past (set_five W wa.heap.size x0 x1 x2 x3 x4) (fun k hk => by simp at hk; right; omega)))
        go_region_held3 (fun W => W.cell? ⟨lb, lo + i * 4, none⟩ = some (.int .i64 xo) ∧ W.cell? ⟨lb, lo + i * 4 + 1, none⟩ = some (.int .i64 xk) ∧ W.cell? ⟨lb, lo + i * 4 + 2, none⟩ = some (.int .i64 xv) ∧ W.cell? ⟨lb, lo + i * 4 + 3, none⟩ = some (.bool xd) ∧ W.cell? ⟨ob, 0, none⟩ = some (.int .i64 rt) ∧ W.cell? ⟨ob, 1, none⟩ = some (.slice va pl vc))
          (first | with_reducible exact HS5.out _ _ _ _ _ _ HX8.out | with_reducible exact ⟨d0, d1, d2, d3, d4, d5⟩ | with_reducible exact HKS.out _ HOA.out | with_reducible exact HKS.out _ HX8.out | with_reducible exact HKS.out _ (HX8.out.trans (Only.alloc _ _ _)))
          (first | (go_at_call 10; refine (HSTEP.out wa.drew (HXA.out.trans (Only.drew _ _))).mono ?_; rintro e w8 ⟨S8, t8, fs8, c8, e0, e1, e2, ga, ma, gl, gc, ml, mc, po, rfl, hV8, hX8, hrts, hpo⟩; have HV8 := Lib.hid hV8; have HX8 := Lib.hid (((Only.drew [] wa).mono (by simp) : Only A.all wa wa.drew).trans hX8); have HPO := Lib.hid hpo; have HRS := Lib.hid hrts; clear hV8 hX8 hpo hrts) | (go_at_call 10; refine (HSTEP.out _ (HXA.out.trans HOA0.out)).mono ?_; rintro e w8 ⟨S8, t8, fs8, c8, e0, e1, e2, ga, ma, gl, gc, ml, mc, po, rfl, hV8, hX8, hrts, hpo⟩; have HV8 := Lib.hid hV8; have hz := HZ.out.only hX8 (fun hm => by have := HSI.out.2.1 _ hm; have := HSI.out.1; omega); have z0 := hz.cell 0 rfl; have z1 := hz.cell 1 rfl; have z2 := hz.cell 2 rfl; have z3 := hz.cell 3 rfl; have z4 := hz.cell 4 rfl; have q0 := hz.free 0; have q1 := hz.free 1; have q2 := hz.free 2; have q3 := hz.free 3; have q4 := hz.free 4; have HX8 := Lib.hid (HOA.out.trans hX8); have HPO := Lib.hid hpo; have HSX := Lib.hid hX8.size; have HRS := Lib.hid hrts; have HZZ := Lib.hid hz; clear hV8 hX8 hpo hz hrts))
        all_goals go_wp2_with fail
        all_goals go_meet
        · refine ⟨S8, t8, fs8, c8, w8.heap.size, e0, e1, e2, ga, ma, gl, gc, ml, mc, po, rfl, rfl, rfl, Blk.new _ _ _, (HOX.out _ HX8.out).alloc _, HV8.out.plain (Only.alloc _ _ _), ((HXR.out.trans HXA.out).past HX8.out (fun k hk => Or.inr (HA.out k hk))).trans (Only.alloc _ _ _), Nat.le_trans HSI.out.2.2.1 (Nat.le_trans HX8.out.size (Only.alloc [] w8 _).size), (HRS.out V HVM.out).trans HRT.out, ?_⟩
          rcases HPO.out with h | ⟨V8, vb, gs, mk, rest, h1, h2, h3, h4, h5, h6, h7, h8, h9, h10, h11, h12, h13, h14⟩
          · exact Or.inl h
          · obtain ⟨gg, ag, cg, ha1, ha2, _, _⟩ := introw_own h8
            obtain ⟨gm, am, cm, hb1, hb2, _, _⟩ := introw_own h9
            cases ha1
            cases hb1
            exact Or.inr ⟨V8, vb, gs, mk, rest, gg, gm, h1, h2.only2 (Only.alloc [] _ _) (by simp), Nat.le_trans HSI.out.2.2.1 h3, h5.alloc _, h6, h7, ha2.only (Only.alloc [] _ _) (by simp), hb2.only (Only.alloc [] _ _) (by simp), h10, h11, h12, h13, h14⟩
        · have hoff : ∀ U, U ∈ vs → prs U.ox ≠ [] → wa.heap.size ≠ U.g := fun U hU he => by have := (HV.out.each U hU).lt he; have := HSI.out.2.2.1; omega
          have hgl := HSI.out.2.2.2
          have hol := HSI.out.1
          have hlow := HV.out.low
          have hbs := (HV.out.own.lt g (by simp [Value.ownBlock])).1
          have hsx : wa.heap.size + 1 ≤ w8.heap.size := by have := HSX.out; simpa using this
          refine ⟨S8, t8, fs8, c8, wa.heap.size, e0, e1, e2, ga, ma, gl, gc, ml, mc, po, rfl, rfl, rfl, ((((HZZ.out.set_same 0 _).set_same 1 _).set_same 2 _).set_same 3 _).set_same 4 _, (HOX.out _ HX8.out).only (set_five _ _ _ _ _ _ _) (by simp; omega), HV8.out.only (set_five _ _ _ _ _ _ _) (fun b hb => by simp at hb; subst hb; exact ⟨by omega, hoff, by simp [Value.ownBlock]; omega⟩), ((HXR.out.trans HXA.out).past HX8.out (fun k hk => Or.inr (HA.out k hk))).past (set_five _ _ _ _ _ _ _) (fun k hk => by simp at hk; subst hk; right; have := HXR.out.size; have := HSI.out.2.2.1; omega), Nat.le_trans HSI.out.2.2.1 (Nat.le_trans HX8.out.size (set_five _ _ _ _ _ _ _).size), (HRS.out V HVM.out).trans HRT.out, ?_⟩
          rcases HPO.out with h | ⟨V8, vb, gs, mk, rest, h1, h2, h3, h4, h5, h6, h7, h8, h9, h10, h11, h12, h13, h14⟩
          · exact Or.inl h
          · have h3' : wa.heap.size + 1 ≤ V8.g := by simpa using h3
            have h4' : wa.heap.size + 1 ≤ vb := by simpa using h4
            obtain ⟨gg, ag, cg, ha1, ha2, ha3, _⟩ := introw_own h8
            obtain ⟨gm, am, cm, hb1, hb2, hb3, _⟩ := introw_own h9
            cases ha1
            cases hb1
            have ha3' : wa.heap.size + 1 ≤ gg := by simpa using ha3
            have hb3' : wa.heap.size + 1 ≤ gm := by simpa using hb3
            exact Or.inr ⟨V8, vb, gs, mk, rest, gg, gm, h1, h2.only2 (set_five _ _ _ _ _ _ _) (fun _ hm => by simp at hm; omega), by have := HSI.out.2.2.1; omega, h5.only (set_five _ _ _ _ _ _ _) (by simp; omega), h6, h7, ha2.only (set_five _ _ _ _ _ _ _) (fun _ => by simp; omega), hb2.only (set_five _ _ _ _ _ _ _) (fun _ => by simp; omega), h10, h11, h12, h13, h14⟩
      case rest =>
        obtain ⟨wk, hwk⟩ : ∃ x, x = wc := ⟨_, rfl⟩
        subst hwk
        obtain ⟨S8, t8, fs8, c8, db, e0, e1, e2, ga, ma, gl, gc, ml, mc, po, rfl, rfl, rfl, hDB, hOB, hV8, hX8, hs8, hr8, hpo⟩ := hcut
        have HV8 := Lib.hid hV8
        have HX8 := Lib.hid hX8
        rcases hpo with rfl | ⟨V8, vb, gs, mk, rest, gg, gm, rfl, hVe, hVg, hB, rfl, rfl, hIG, hIM, hp1, hp2, hnd, hm2, hm34⟩
        · clear hV8 hX8 hDB hOB hr8 hs8
          go_wp2_with fail
          go_roundg (gk - 1)
          case measure => have := HI.out; omega
          case rel => exact ⟨i + 1, S8, t8, fs8, c8, vs, by have := HI.out; omega, by go_num, HV8.out, HND.out, HX8.out⟩
        · have hndV := HND.out V HVM.out
          have hnd8 := hnd hndV
          have HND8 := Lib.hid hnd8
          have HSH := Lib.hid (fun W (o : Only [] wk W) => law_shares (ed0 := e0) (ed1 := e1) (ed2 := e2) (hV8.tr.plain o) HNN.out.2 (hV8.each V HVM.out).rep hVe.rep hndV hnd8 hp1 hp2 (hIG.only o (by simp)) (hIM.only o (by simp)))
          rw [hr8] at HSH
          have HVE := Lib.hid hVe
          have HVG := Lib.hid hVg
          obtain ⟨r8, hr88⟩ : ∃ u, rootOf S8 V8.ox = u := ⟨_, rfl⟩
          have HR8 := Lib.hid hr88
          rw [hr88] at HSH hB
          obtain ⟨gl, hgl8⟩ : ∃ u, gs.length = u := ⟨_, rfl⟩
          obtain ⟨ml, hml8⟩ : ∃ u, mk.length = u := ⟨_, rfl⟩
          rw [hgl8] at HSH hDB hm2
          rw [hml8] at HSH hDB hm2 hm34
          have HCL : Hid (∀ W, Only [] wk W → W.cell? ⟨ob, 0, none⟩ = some (.int .i64 rt) ∧ W.cell? ⟨vb, 0, none⟩ = some (.int .i64 r8) ∧ W.cell? ⟨db, 0, none⟩ = some (.int .i64 e0) ∧ W.cell? ⟨db, 1, none⟩ = some (.int .i64 e1) ∧ W.cell? ⟨db, 2, none⟩ = some (.bool e2) ∧ W.cell? ⟨db, 3, none⟩ = some (.slice ga gl gc) ∧ W.cell? ⟨db, 4, none⟩ = some (.slice ma ml mc)) := Lib.hid (fun W o => ⟨(hOB.only o (by simp)).cell 0 rfl, (hB.only o (by simp)).cell 0 rfl, (hDB.only o (by simp)).cell 0 rfl, (hDB.only o (by simp)).cell 1 rfl, (hDB.only o (by simp)).cell 2 rfl, (hDB.only o (by simp)).cell 3 rfl, (hDB.only o (by simp)).cell 4 rfl⟩)
          have hd1 : decide ((34 : Int) < (ml : Int)) = false := by simp; omega
          have hd2 : decide ((gl : Int) + 2 < (ml : Int)) = false := by simp; omega
          have hgw : gl ≤ 1000000 := by have h1 := slots_len (hV8.each V HVM.out).rep hndV; have h2 := hp1.length_eq; have := HNN.out.2; simp at h2; omega
          have hw5 : IntKind.i64.wrap ((gl : Int) + 2) = (gl : Int) + 2 := IntWalk.i64_in _ ⟨by omega, by omega⟩
          have HB := Lib.hid hB
          obtain ⟨d0, d1, d2, d3, d4, d5, d6⟩ := HCL.out wk.drew (Only.drew _ _)
          have hown := hV8.own
          rw [HNV.out] at hown
          have hbk : base ≤ wk.heap.size := by have := (hown.lt g (by simp [Value.ownBlock])); omega
          have HOW := Lib.hid hown
          clear hV8 hX8 hDB hOB hr8 hs8 hVe hVg hB hIG hIM hp1 hp2 hnd hndV hnd8 hr88 hgl8 hml8 hown
          go_upto_region 18 with fail
          go_region_held3 (fun W => W.cell? ⟨ob, 0, none⟩ = some (.int .i64 rt) ∧ W.cell? ⟨vb, 0, none⟩ = some (.int .i64 r8) ∧ W.cell? ⟨db, 0, none⟩ = some (.int .i64 e0) ∧ W.cell? ⟨db, 1, none⟩ = some (.int .i64 e1) ∧ W.cell? ⟨db, 2, none⟩ = some (.bool e2) ∧ W.cell? ⟨db, 3, none⟩ = some (.slice ga gl gc) ∧ W.cell? ⟨db, 4, none⟩ = some (.slice ma ml mc))
            (first | with_reducible exact ⟨d0, d1, d2, d3, d4, d5, d6⟩ | with_reducible exact HCL.out _ hX9)
            ((go_at_call 17; refine (HSH.out wk.drew (Only.drew _ _)).mono ?_; rintro e w9 ⟨rfl, hX9a⟩; have hX9 := (Only.drew [] wk).trans hX9a; clear hX9a))
          have HX9 := Lib.hid hX9
          have hB9 := HB.out.only hX9 (by simp)
          have b0 := hB9.cell 0 rfl
          have b1 := hB9.cell 1 rfl
          obtain ⟨hiv, hz0, hz1, hz2⟩ := HIV.out
          have hbk9 : base ≤ w9.heap.size := Nat.le_trans hbk hX9.size
          clear hX9 hB9 d0 d1 d2 d3 d4 d5 d6 HSH
          go_wp2_with (at_builtin; refine wpList_append_any (by rfl) (.tmp 113) (.tmp 117) 34 (by rfl) base 33 iv _ 2 32 Try.underlying34 hiv hz0 hz1 hz2 rfl (by decide) _ nv (vesC S8 vs) rfl (ownsRow_only HOW.out (HX9.out.trans (Only.alloc [] _ _)) (fun _ _ => by simp)) (some ⟨w9.heap.size, 0, none⟩) 1 1 [.int .i64 r8, .slice V8.ao (prs V8.ox).length V8.cap] rfl rfl (fun e => by cases e) (fun ad e => by cases e; exact cells_pair _ _ _ _) (fun u hu => by simp at hu; rcases hu with rfl | rfl <;> rfl) (by unfold maxLen; omega) (by omega) (by simp; omega) ?_)
          intro v9 wn hown9 hXn hatn
          have hve : veC S8 V8 = [.int .i64 r8, .slice V8.ao (prs V8.ox).length V8.cap] := by unfold veC; rw [HR8.out]
          have hX19 : Only (Value.slice (some ⟨g, 0, none⟩) nv vcap).ownBlock.toList w9 wn := (Only.alloc _ w9 _).trans hXn
          have hVs : Vs A n tb base (i + 1) S8 t8 fs8 c8 (vs ++ [V8]) v9 wn := by
            refine (HV8.out.plain HX9.out).snoc (HVE.out.only2 HX9.out (by simp)) (by rw [HNV.out, hve]; exact hown9) hX19 (fun b hb => by simpa using hb) (fun b hb => ?_) (fun _ e => ?_) (by rw [HNV.out]; omega)
            · rcases hatn b hb with h | h
              · exact Or.inl h
              · right; have : w9.heap.size + 1 ≤ b := by simpa using h
                omega
            · have h1 := HVG.out
              simp [Value.ownBlock] at e
              omega
          have HVS := Lib.hid hVs
          have HXn : Hid (Only [] w wn) := Lib.hid ((HX8.out.trans HX9.out).past hX19 (fun b hb => by
            right
            have h1 := (HOW.out.lt b (by simpa using hb)).1
            have := HLW.out
            omega))
          clear hown9 hXn hatn hX19 hVs b0 b1 hiv hz0 hz1 hz2
          go_wp2_with fail
          go_roundg (gk - 1)
          case measure => have := HI.out; omega
          case rel =>
            refine ⟨i + 1, S8, t8, fs8, c8, vs ++ [V8], by have := HI.out; omega, by go_num, HVS.out, fun U hU => ?_, HXn.out⟩
            rcases List.mem_append.1 hU with hU | hU
            · exact HND.out U hU
            · simp at hU; subst hU; exact HND8.out
    --END1
    --ARM2
    · have hil : i = len := by omega
      subst hil
      rw [hnv] at hnc ⊢
      have HCE := Lib.hid hcells
      have HPF := Lib.hid (fun W (o : Only [] wr W) => pool_faults A n S t fs 0 W (hV.tr.plain o).pool)
      have hnn : nv ≤ 1000 := by omega
      have HTL := Lib.hid (fun W V (hVm : V ∈ vs) (o : Only [] wr W) => law_tells (lo := a) (hi := b) (hV.tr.plain o) (hV.each V hVm).rep ((hV.each V hVm).row.only2 o (fun _ => by simp)) (fun h => Nat.lt_of_lt_of_le ((hV.each V hVm).lt h) o.size) (by have := (hV.each V hVm).len; omega))
      clear hcells hV hXr hi hlt hnv
      go_wp2_with fail
      go_loopg [18] nv (fun gk s18 wq => ∃ q : Nat, q + gk = nv ∧ s18 = .int .i64 (q : Nat) ∧ Only [] wr wq)
      case atStart => exact ⟨0, by omega, rfl, Only.refl _ _⟩
      case round =>
        obtain ⟨q, hq, rfl, hXq⟩ := hrel
        have HQ := Lib.hid hq
        by_cases hlt : q < nv
        · obtain ⟨V, hVj⟩ : ∃ V, vs[q]? = some V := ⟨_, List.getElem?_eq_getElem (by have := HNV.out; omega)⟩
          obtain ⟨v0, v1⟩ := HCE.out q V hVj
          have v0 := keep_cell hXq v0
          have v1 := keep_cell hXq v1
          have HT := Lib.hid (HTL.out _ V (List.mem_of_getElem? hVj) hXq)
          have HXq := Lib.hid hXq
          have hqq : (q : Int) < nv := by omega
          obtain ⟨rt, hrt⟩ : ∃ u, rootOf S V.ox = u := ⟨_, rfl⟩
          obtain ⟨pl, hpl⟩ : ∃ u, (prs V.ox).length = u := ⟨_, rfl⟩
          obtain ⟨va, hva⟩ : ∃ u, V.ao = u := ⟨_, rfl⟩
          obtain ⟨vc, hvc⟩ : ∃ u, V.cap = u := ⟨_, rfl⟩
          rw [hrt, hpl, hva, hvc] at HT
          rw [hrt] at v0
          rw [hpl, hva, hvc] at v1
          clear hVj hXq hq hrt hpl hva hvc
          go_wp2_with fail
          refine HT.out.mono ?_
          rintro e wz ⟨rfl, hXz⟩
          have HXz := Lib.hid (HXq.out.trans hXz)
          clear hXz v0 v1 HT
          go_wp2_with fail
          go_roundg (gk - 1)
          case measure => have := HQ.out; omega
          case rel => exact ⟨q + 1, by have := HQ.out; omega, by go_num, HXz.out⟩
        · have hqn : q = nv := by omega
          subst hqn
          have HXq := Lib.hid hXq
          clear hXq hq hlt
          go_wp2_with fail
          refine (HPF.out _ HXq.out).mono ?_
          rintro e wz ⟨rfl, rfl⟩
          go_wp2_with fail
          go_ret
          exact ⟨rfl, HXR.out.trans HXq.out⟩
    --END2

end Go.Proofs.Ytacegkjobfeiiaa

