/- TrieDiffs: a round of changes, walked. Conditions: the changes stand in memory as ChgsAt says. -/
import Derived.Test.YtacegkjobfeiiaaCDiffX
import Derived.Test.YtacegkjobfeiiaaCTrieEl
set_option linter.unusedVariables false
set_option linter.unusedSimpArgs false
set_option linter.unusedSectionVars false
set_option linter.unnecessarySimpa false
namespace Go.Proofs.Ytacegkjobfeiiaa
open Go.RowKit

/-- The changes' cells. -/
def ChgsAt (w : World) (b o len : Nat) (O : Nat → Chg) : Prop := ∀ i, i < len → w.cell? ⟨b, o + i * 4, none⟩ = some (.int .i64 (O i).of) ∧ w.cell? ⟨b, o + i * 4 + 1, none⟩ = some (.int .i64 (O i).k) ∧ w.cell? ⟨b, o + i * 4 + 2, none⟩ = some (.int .i64 (O i).v) ∧ w.cell? ⟨b, o + i * 4 + 3, none⟩ = some (.bool (O i).d)

/-- (a % n + n) % n, n > 0: a place. -/
theorem place_of (a : Int) (n : Nat) (hn : 1 ≤ n) (hn2 : n ≤ 1000) : ∃ j : Nat, j < n ∧ -(1000 : Int) < a.tmod n ∧ a.tmod n < 1000 ∧ (a.tmod n + n).tmod n = j := by
  have h1 : a.tmod n < n := Int.tmod_lt_of_pos a (by omega)
  have h2 : -(n : Int) < a.tmod n := by
    by_cases h : 0 ≤ a
    · have := Int.tmod_nonneg (n : Int) h; omega
    · have e : a.tmod n = -((-a).tmod n) := by rw [Int.neg_tmod]; omega
      have := Int.tmod_lt_of_pos (-a) (show (0 : Int) < n by omega)
      omega
  generalize a.tmod n = t at *
  have h3 : (t + n).tmod n = (t + n) % n := Int.tmod_eq_emod_of_nonneg (by omega)
  have h4 := Int.emod_nonneg (t + n) (show (n : Int) ≠ 0 by omega)
  have h5 := Int.emod_lt_of_pos (t + n) (show (0 : Int) < n by omega)
  exact ⟨((t + n) % n).toNat, by omega, by omega, by omega, by rw [h3]; omega⟩

theorem two_new (w : World) (a b : Array Value) (ta tb : TypeId) :
    Blk ((w.alloc (.cells a ta)).alloc (.cells b tb)).drew w.heap.size a ta ∧ Blk ((w.alloc (.cells a ta)).alloc (.cells b tb)).drew (w.heap.size + 1) b tb ∧ Only [] w ((w.alloc (.cells a ta)).alloc (.cells b tb)).drew := by
  refine ⟨((Blk.new w a ta).alloc _).drew, ?_, ((Only.alloc [] w _).trans (Only.alloc [] _ _)).trans (Only.drew _ _)⟩
  have := (Blk.new (w.alloc (.cells a ta)) b tb).drew
  simpa using this

theorem cntO_prs (ox : Option Tr) : cntO ox = (prs ox).length := by
  cases ox with
  | none => rfl
  | some x => exact (Tr.cnt_pairs x).symm

theorem prs_low {n : Nat} {S : Nat → Sl} {ox : Option Tr} (h : RepO n S ox) : ∀ x, x ∈ prs ox → 0 ≤ x.1 := by
  cases ox with
  | none => intro x hx; simp [prs] at hx
  | some y => intro x hx; have := Tr.wf_keys h.2 x hx; have := Tr.wf_span h.2; omega

theorem chgsC_at : ∀ {L : List Ch2} {q : Nat} {c : Ch2}, L[q]? = some c → ∀ j, j < 5 → (chgsC L)[q * 5 + j]? = (chgC c)[j]?
  | a :: L, 0, c, h, j, hj => by
    simp at h; subst h
    show (chgC a ++ chgsC L)[_]? = _
    rw [List.getElem?_append_left (by simp [chgC]; omega)]
    simp
  | a :: L, q + 1, c, h, j, hj => by
    have := chgsC_at (L := L) (q := q) (c := c) (by simpa using h) j hj
    show (chgC a ++ chgsC L)[_]? = _
    rw [List.getElem?_append_right (by simp [chgC]; omega), ← this]
    congr 1
    simp [chgC]; omega

def EdZero (w : World) : Prop := (zeroValue 38).run Try.prog w = .ok (.agg #[.int .i64 0, .int .i64 0, .bool false, .slice none 0 0, .slice none 0 0]) w

set_option maxRecDepth 100000 in
set_option maxHeartbeats 8000000 in
theorem diffs_core {len lb lo cap : Nat} {O : Nat → Chg} {a b : Int} (hlen : len ≤ 120) (w : World) (hO : ChgsAt w lb lo len O) {ad : Option Addr} (had : 0 < len → ad = some ⟨lb, lo, none⟩) :
    Calls Try.prog 3 #[.slice ad len cap, .int .i64 a, .int .i64 b] w fun e w' => e = .returned (.bool true) ∧ Only [] w w' := by
  have HO := Lib.hid hO
  have HAD := Lib.hid had
  clear hO had
  go_enter Try.func3, Try.ntmps3
  go_wp2_with fail
  refine (tr_known w).mono ?_
  rintro e w1 ⟨rfl, hX1⟩
  have HX1 := Lib.hid hX1
  clear hX1
  go_wp2_with fail
  refine (pool_new 4096 (by omega) (by omega) w1).mono ?_
  rintro e w2 ⟨A, rfl, hP, hX2, hA⟩
  have HX2 := Lib.hid (HX1.out.trans hX2)
  have HA : Hid (∀ k, k ∈ A.all → w.heap.size ≤ k) := Lib.hid (fun k hk => Nat.le_trans HX1.out.size (hA k hk))
  have HP := Lib.hid hP
  clear hP hX2 hA HX1
  go_wp2_with (go_at_call 8; refine (num_12 _ _).mono ?_; rintro e w' ⟨rfl, rfl⟩)
  refine (trie_new HP.out).mono ?_
  rintro e w3 ⟨rfl, hT, hX3⟩
  obtain ⟨tb, htb⟩ : ∃ b, w2.heap.size = b := ⟨_, rfl⟩
  rw [htb] at hT ⊢
  have HT := Lib.hid hT
  have HX3 := Lib.hid (HX2.out.trans hX3)
  have HTB : Hid (w.heap.size ≤ tb) := Lib.hid (by have := HX2.out.size; omega)
  clear hT hX3 htb HP HX2
  go_upto_region 10 with fail
  obtain ⟨base, hbase⟩ : ∃ x, w3.heap.size = x := ⟨_, rfl⟩
  refine wp_name (fun w4 => Vs A 4096 tb base 0 (fun _ => slot0) 0 (List.range' 1 4096) 0 [⟨none, base, none, 0⟩] (.slice (some ⟨base, 0, none⟩) 1 1) w4 ∧ Only [] w3 w4) ?_ ?_
  · have hl := HT.out.lt
    refine ⟨⟨HT.out.plain (Only.alloc _ _ _), ⟨List.nodup_range', fun i hi => ?_, fun i => by simp [slot0]⟩, ⟨fun k hk => by have := hl.2 k hk; omega, by omega⟩, by omega, by omega, ?_, ?_, by simp, ?_, by simp⟩, Only.alloc _ _ _⟩
    · have := List.mem_range'.1 hi
      obtain ⟨j, hj, rfl⟩ := this
      simp [slot0]; omega
    · intro V hV
      simp at hV
      subst hV
      exact ⟨trivial, ⟨Or.inl ⟨rfl, rfl⟩, Nat.le_refl _, fun j u hu => by simp [prs, prsC] at hu⟩, Nat.le_refl _, by simp [prs], fun h => absurd rfl h⟩
    · refine ⟨rfl, Or.inr ⟨base, 1, #[.int .i64 0, .slice none 0 0], rfl, Nat.le_refl _, ?_, Nat.le_refl _, by unfold maxLen; omega, rfl, rfl⟩⟩
      rw [← hbase]
      exact Blk.new w3 #[.int .i64 0, .slice none 0 0] 33
    · intro V hV h
      simp at hV
      subst hV
      exact absurd rfl h
  rw [hbase]
  rintro w4 ⟨hV4, hX4⟩
  have HX4 := Lib.hid (HX3.out.mono (by simp) |>.trans hX4 : Only [] w w4)
  have HLW : Hid (w.heap.size ≤ base) := Lib.hid (by have := HX3.out.size; omega)
  have HV4 := Lib.hid hV4
  clear hV4 hX4 hbase HT HX3
  have hez := edit_zero
  obtain ⟨iv, hiv, hz0, hz1, hz2⟩ := info_parts info_version
  have HIV := Lib.hid (And.intro hiv (And.intro hz0 (And.intro hz1 hz2)))
  clear hiv hz0 hz1 hz2
  go_wp2_with fail
  go_loopg [10, 11, 12, 13, 14] len (fun gk s10 s11 s12 s13 s14 wr => ∃ (i : Nat) (S : Nat → Sl) (t : Int) (fs : List Nat) (c : Int) (vs : List Ve), i + gk = len ∧ s11 = .int .i64 (i : Nat) ∧ Vs A 4096 tb base i S t fs c vs s10 wr ∧ Only [] w wr)
  case atStart => exact ⟨0, _, _, _, _, _, by omega, rfl, HV4.out, HX4.out⟩
  case round =>
    clear HV4 HX4
    obtain ⟨i, S, t, fs, c, vs, hi, rfl, hV, hXr⟩ := hrel
    obtain ⟨g, vcap, rfl, hgb, hgl, hnc, hcells⟩ := hV.open
    have HI := Lib.hid hi
    have HV := Lib.hid hV
    have HXR := Lib.hid hXr
    obtain ⟨nv, hnv⟩ : ∃ nv, vs.length = nv := ⟨_, rfl⟩
    have hnv1 : 1 ≤ nv := by have := hV.one; omega
    have hnv2 : nv ≤ i + 1 := by have := hV.many; omega
    have HNV := Lib.hid hnv
    by_cases hlt : i < len
    · obtain rfl := HAD.out (by omega)
      obtain ⟨l0, l1, l2, l3⟩ := HO.out i hlt
      obtain ⟨j, hj, hm1, hm2, hm3⟩ := place_of (O i).of nv hnv1 (by omega)
      obtain ⟨V, hVj⟩ : ∃ V, vs[j]? = some V := ⟨_, List.getElem?_eq_getElem (by omega)⟩
      obtain ⟨v0, v1⟩ := hcells j V hVj
      have HSTEP : Hid (∀ W, Only [] wr W → Calls Try.prog 10 #[.pointer (some ⟨A.p, 0, none⟩), .pointer (some ⟨tb, 0, none⟩), .agg #[.int .i64 (rootOf S V.ox), .slice V.ao (prs V.ox).length V.cap], .agg #[.int .i64 (O i).of, .int .i64 (O i).k, .int .i64 (O i).v, .bool (O i).d]] W (StepPost A 4096 tb base i vs (.slice (some ⟨g, 0, none⟩) nv vcap) W)) := Lib.hid (fun W o => step_changed (ch := O i) (by rw [← hnv]; exact hV.plain o) (by omega) (by omega) (List.mem_of_getElem? hVj) (by have := hV.own.lt g (by simp [Value.ownBlock]); have := o.size; omega))
      have hlbw : ∀ jj u, w.cell? ⟨lb, jj, none⟩ = some u → lb < w.heap.size := fun jj u h => by
        rcases Nat.lt_or_ge lb w.heap.size with hl | hl
        · exact hl
        · simp [World.cell?, Array.getElem?_eq_none hl] at h
      have hlb := hlbw _ _ l0
      have HLB : Hid (lb ∉ A.all ∧ g ∉ A.all ∧ lb < wr.heap.size) := Lib.hid ⟨fun hm => by have := HA.out _ hm; omega, fun hm => by have := hV.low.1 _ hm; omega, by have := hXr.size; omega⟩
      have l0 := keep_cell hXr l0
      have l1 := keep_cell hXr l1
      have l2 := keep_cell hXr l2
      have l3 := keep_cell hXr l3
      rw [hnv] at hnc ⊢
      obtain ⟨xo, hxo⟩ : ∃ u, (O i).of = u := ⟨_, rfl⟩
      obtain ⟨xk, hxk⟩ : ∃ u, (O i).k = u := ⟨_, rfl⟩
      obtain ⟨xv, hxv⟩ : ∃ u, (O i).v = u := ⟨_, rfl⟩
      obtain ⟨xd, hxd⟩ : ∃ u, (O i).d = u := ⟨_, rfl⟩
      obtain ⟨rt, hrt⟩ : ∃ u, rootOf S V.ox = u := ⟨_, rfl⟩
      obtain ⟨pl, hpl⟩ : ∃ u, (prs V.ox).length = u := ⟨_, rfl⟩
      obtain ⟨va, hva⟩ : ∃ u, V.ao = u := ⟨_, rfl⟩
      obtain ⟨vc, hvc⟩ : ∃ u, V.cap = u := ⟨_, rfl⟩
      rw [hxo, hxk, hxv, hxd, hrt, hpl, hva, hvc] at HSTEP
      rw [hxo] at l0 hm1 hm2 hm3
      rw [hxk] at l1
      rw [hxv] at l2
      rw [hxd] at l3
      rw [hrt] at v0
      rw [hpl, hva, hvc] at v1
      have hii : (i : Int) < len := by omega
      have hjj : (j : Int) < nv := by omega
      have hn0 : ¬ ((nv : Int) = 0) := by omega
      have hn1 : ¬ (nv = 0) := by omega
      obtain ⟨T1, hT1⟩ : ∃ u, xo.tmod (nv : Int) = u := ⟨_, rfl⟩
      rw [hT1] at hm1 hm2 hm3
      have hw1 : IntKind.i64.wrap T1 = T1 := IntWalk.i64_in _ ⟨by omega, by omega⟩
      have hw2 : IntKind.i64.wrap (T1 + (nv : Int)) = T1 + (nv : Int) := IntWalk.i64_in _ ⟨by omega, by omega⟩
      have hw3 : IntKind.i64.wrap (j : Int) = (j : Int) := IntWalk.i64_in _ ⟨by omega, by omega⟩
      clear hlbw hlb hcells hVj hV hXr hnv hxo hxk hxv hxd hrt hpl hva hvc hi
      go_upto_region 13 with fail
      go_cut [12, 13, 14] (fun s12 s13 s14 wc => ∃ (S8 : Nat → Sl) (t8 : Int) (fs8 : List Nat) (c8 : Int) (po : Option Addr), s12 = .pointer po ∧ s14 = .bool true ∧ Vs A 4096 tb base (i + 1) S8 t8 fs8 c8 vs (.slice (some ⟨g, 0, none⟩) nv vcap) wc ∧ Only [] w wc ∧ wr.heap.size ≤ wc.heap.size ∧
        (po = none ∨ ∃ V8 vb, po = some ⟨vb, 0, none⟩ ∧ VeOk 4096 S8 base (i + 1) wc V8 ∧ wr.heap.size ≤ V8.g ∧ Blk wc vb #[.int .i64 (rootOf S8 V8.ox), .slice V8.ao (prs V8.ox).length V8.cap] 33))
      case first =>
        have HSC : Hid (∀ X W, Only X wr W → lb ∉ X → g ∉ X → W.cell? ⟨lb, lo + i * 4, none⟩ = some (.int .i64 xo) ∧ W.cell? ⟨lb, lo + i * 4 + 1, none⟩ = some (.int .i64 xk) ∧ W.cell? ⟨lb, lo + i * 4 + 2, none⟩ = some (.int .i64 xv) ∧ W.cell? ⟨lb, lo + i * 4 + 3, none⟩ = some (.bool xd) ∧ W.cell? ⟨g, j * 2, none⟩ = some (.int .i64 rt) ∧ W.cell? ⟨g, j * 2 + 1, none⟩ = some (.slice va pl vc)) := Lib.hid (fun X W o h1 h2 => ⟨keep_off o h1 l0, keep_off o h1 l1, keep_off o h1 l2, keep_off o h1 l3, keep_off o h2 v0, keep_off o h2 v1⟩)
        obtain ⟨d0, d1, d2, d3, d4, d5⟩ := HSC.out [] wr.drew (Only.drew _ _) (by simp) (by simp)
        have HST : Hid (∀ (W : World) (b : Nat) (x0 x1 x2 x3 x4 : Value), Only (b :: A.all) W (((((W.setCell ⟨b, 0, none⟩ x0).setCell ⟨b, 1, none⟩ x1).setCell ⟨b, 2, none⟩ x2).setCell ⟨b, 3, none⟩ x3).setCell ⟨b, 4, none⟩ x4)) := Lib.hid (fun W b x0 x1 x2 x3 x4 => ((((Only.setCell W (by simp) x0).trans (Only.setCell _ (by simp) x1)).trans (Only.setCell _ (by simp) x2)).trans (Only.setCell _ (by simp) x3)).trans (Only.setCell _ (by simp) x4))
        have HOA : Hid (Only [] wr (wr.alloc (.cells #[.int .i64 0, .int .i64 0, .bool false, .slice none 0 0, .slice none 0 0] 38)).drew) := Lib.hid ((Only.alloc [] wr _).trans (Only.drew _ _))
        have HZ : Hid (Blk (wr.alloc (.cells #[.int .i64 0, .int .i64 0, .bool false, .slice none 0 0, .slice none 0 0] 38)).drew wr.heap.size #[.int .i64 0, .int .i64 0, .bool false, .slice none 0 0, .slice none 0 0] 38) := Lib.hid (Blk.new wr _ _).drew
        have HGL : Hid (g < wr.heap.size ∧ ∀ k, k ∈ A.all → k < wr.heap.size) := Lib.hid ⟨hgl, fun k hk => HV.out.tr.lt.2 k hk⟩
        have HS5 : Hid (∀ (W : World) (b : Nat) (x0 x1 x2 x3 x4 : Value), Only A.all wr W → wr.heap.size ≤ b → (((((W.setCell ⟨b, 0, none⟩ x0).setCell ⟨b, 1, none⟩ x1).setCell ⟨b, 2, none⟩ x2).setCell ⟨b, 3, none⟩ x3).setCell ⟨b, 4, none⟩ x4).cell? ⟨lb, lo + i * 4, none⟩ = some (.int .i64 xo) ∧ (((((W.setCell ⟨b, 0, none⟩ x0).setCell ⟨b, 1, none⟩ x1).setCell ⟨b, 2, none⟩ x2).setCell ⟨b, 3, none⟩ x3).setCell ⟨b, 4, none⟩ x4).cell? ⟨lb, lo + i * 4 + 1, none⟩ = some (.int .i64 xk) ∧ (((((W.setCell ⟨b, 0, none⟩ x0).setCell ⟨b, 1, none⟩ x1).setCell ⟨b, 2, none⟩ x2).setCell ⟨b, 3, none⟩ x3).setCell ⟨b, 4, none⟩ x4).cell? ⟨lb, lo + i * 4 + 2, none⟩ = some (.int .i64 xv) ∧ (((((W.setCell ⟨b, 0, none⟩ x0).setCell ⟨b, 1, none⟩ x1).setCell ⟨b, 2, none⟩ x2).setCell ⟨b, 3, none⟩ x3).setCell ⟨b, 4, none⟩ x4).cell? ⟨lb, lo + i * 4 + 3, none⟩ = some (.bool xd) ∧ (((((W.setCell ⟨b, 0, none⟩ x0).setCell ⟨b, 1, none⟩ x1).setCell ⟨b, 2, none⟩ x2).setCell ⟨b, 3, none⟩ x3).setCell ⟨b, 4, none⟩ x4).cell? ⟨g, j * 2, none⟩ = some (.int .i64 rt) ∧ (((((W.setCell ⟨b, 0, none⟩ x0).setCell ⟨b, 1, none⟩ x1).setCell ⟨b, 2, none⟩ x2).setCell ⟨b, 3, none⟩ x3).setCell ⟨b, 4, none⟩ x4).cell? ⟨g, j * 2 + 1, none⟩ = some (.slice va pl vc)) := by
          refine Lib.hid (fun W b x0 x1 x2 x3 x4 o hb => ?_)
          have h1 := HLB.out
          have h2 := HGL.out.1
          exact HSC.out (b :: A.all) _ ((o.mono (fun k hk => List.mem_cons_of_mem _ hk)).trans (HST.out W b x0 x1 x2 x3 x4)) (by simp; exact ⟨by omega, h1.1⟩) (by simp; exact ⟨by omega, h1.2.1⟩)
        go_region_held3 (fun W => W.cell? ⟨lb, lo + i * 4, none⟩ = some (.int .i64 xo) ∧ W.cell? ⟨lb, lo + i * 4 + 1, none⟩ = some (.int .i64 xk) ∧ W.cell? ⟨lb, lo + i * 4 + 2, none⟩ = some (.int .i64 xv) ∧ W.cell? ⟨lb, lo + i * 4 + 3, none⟩ = some (.bool xd) ∧ W.cell? ⟨g, j * 2, none⟩ = some (.int .i64 rt) ∧ W.cell? ⟨g, j * 2 + 1, none⟩ = some (.slice va pl vc))
          (first | with_reducible exact HS5.out _ _ _ _ _ _ _ HX8.out (Nat.le_refl _) | with_reducible exact ⟨d0, d1, d2, d3, d4, d5⟩ | with_reducible exact HSC.out _ _ HOA.out (by simp) (by simp) | with_reducible exact HSC.out _ _ HX8.out HLB.out.1 HLB.out.2.1 | with_reducible exact HSC.out _ _ (HX8.out.trans (Only.alloc _ _ _)) HLB.out.1 HLB.out.2.1)
          (first | (go_at_call 10; refine (HSTEP.out wr.drew (Only.drew _ _)).mono ?_; rintro e w8 ⟨S8, t8, fs8, c8, e0, e1, e2, e3, e4, po, rfl, ⟨x, y, z, rfl, rfl, rfl⟩, ⟨a3, b3, c3, rfl⟩, ⟨a4, b4, c4, rfl⟩, hV8, hX8, hpo⟩; have HV8 := Lib.hid hV8; have HX8 := Lib.hid (((Only.drew [] wr).mono (by simp) : Only A.all wr wr.drew).trans hX8); have HPO := Lib.hid hpo; clear hV8 hX8 hpo) | (go_at_call 10; refine (HSTEP.out (wr.alloc (.cells #[.int .i64 0, .int .i64 0, .bool false, .slice none 0 0, .slice none 0 0] 38)).drew HOA.out).mono ?_; rintro e w8 ⟨S8, t8, fs8, c8, e0, e1, e2, e3, e4, po, rfl, ⟨x, y, z, rfl, rfl, rfl⟩, ⟨a3, b3, c3, rfl⟩, ⟨a4, b4, c4, rfl⟩, hV8, hX8, hpo⟩; have HV8 := Lib.hid hV8; have hz := HZ.out.only hX8 (fun hm => by have := HGL.out.2 _ hm; omega); have z0 := hz.cell 0 rfl; have z1 := hz.cell 1 rfl; have z2 := hz.cell 2 rfl; have z3 := hz.cell 3 rfl; have z4 := hz.cell 4 rfl; have q0 := hz.free 0; have q1 := hz.free 1; have q2 := hz.free 2; have q3 := hz.free 3; have q4 := hz.free 4; have HX8 := Lib.hid ((HOA.out.mono (by simp) : Only A.all wr _).trans hX8); have HPO := Lib.hid hpo; have HSX := Lib.hid hX8.size; clear hV8 hX8 hpo hz))
        all_goals go_wp2_with fail
        all_goals go_meet
        · refine ⟨S8, t8, fs8, c8, po, rfl, rfl, HV8.out.plain (Only.alloc _ _ _), (HXR.out.past HX8.out (fun k hk => Or.inr (HA.out k hk))).trans (Only.alloc _ _ _), Nat.le_trans HX8.out.size (Only.alloc [] w8 _).size, ?_⟩
          rcases HPO.out with h | ⟨V8, vb, h1, h2, h3, h4, h5⟩
          · exact Or.inl h
          · exact Or.inr ⟨V8, vb, h1, h2.only2 (Only.alloc [] _ _) (by simp), h3, h5.alloc _⟩
        · have hoff : ∀ U, U ∈ vs → prs U.ox ≠ [] → wr.heap.size ≠ U.g := fun U hU he => by have := (HV.out.each U hU).lt he; omega
          have hgl := HGL.out.1
          have hlow := HV.out.low
          have hbs := (HV.out.own.lt g (by simp [Value.ownBlock])).1
          refine ⟨S8, t8, fs8, c8, po, rfl, rfl, HV8.out.only (set_five _ _ _ _ _ _ _) (fun b hb => by simp at hb; subst hb; exact ⟨by omega, hoff, by simp [Value.ownBlock]; omega⟩), (HXR.out.past HX8.out (fun k hk => Or.inr (HA.out k hk))).past (set_five _ _ _ _ _ _ _) (fun k hk => by simp at hk; subst hk; right; have := HXR.out.size; omega), Nat.le_trans HX8.out.size (set_five _ _ _ _ _ _ _).size, ?_⟩
          rcases HPO.out with h | ⟨V8, vb, h1, h2, h3, h4, h5⟩
          · exact Or.inl h
          · have h3' : wr.heap.size + 1 ≤ V8.g := by simpa using h3
            have h4' : wr.heap.size + 1 ≤ vb := by simpa using h4
            exact Or.inr ⟨V8, vb, h1, h2.only2 (set_five _ _ _ _ _ _ _) (fun _ hm => by simp at hm; omega), by omega, h5.only (set_five _ _ _ _ _ _ _) (by simp; omega)⟩
      case rest =>
        obtain ⟨wk, hwk⟩ : ∃ x, x = wc := ⟨_, rfl⟩
        subst hwk
        obtain ⟨S8, t8, fs8, c8, po, rfl, rfl, hV8, hX8, hs8, hpo⟩ := hcut
        have HV8 := Lib.hid hV8
        have HX8 := Lib.hid hX8
        rcases hpo with rfl | ⟨V8, vb, rfl, hVe, hVg, hB⟩
        · clear hV8 hX8 l0 l1 l2 l3 v0 v1
          go_wp2_with fail
          go_roundg (gk - 1)
          case measure => have := HI.out; omega
          case rel => exact ⟨i + 1, S8, t8, fs8, c8, vs, by have := HI.out; omega, by go_num, HV8.out, HX8.out⟩
        · have HVE := Lib.hid hVe
          have HVG := Lib.hid hVg
          have b0 := hB.cell 0 rfl
          have b1 := hB.cell 1 rfl
          obtain ⟨hiv, hz0, hz1, hz2⟩ := HIV.out
          have hown := hV8.own
          rw [HNV.out] at hown
          have hbk : base ≤ wk.heap.size := by have := (hown.lt g (by simp [Value.ownBlock])); omega
          have HOW := Lib.hid hown
          clear hV8 hX8 hVe hVg hB hown l0 l1 l2 l3 v0 v1
          go_wp2_with (at_builtin; refine wpList_append_any (by rfl) (.tmp 88) (.tmp 92) 34 (by rfl) base 33 iv _ 2 32 Try.underlying34 hiv hz0 hz1 hz2 rfl (by decide) _ nv (vesC S8 vs) rfl (HOW.out.alloc _) (some ⟨wk.heap.size, 0, none⟩) 1 1 (veC S8 V8) rfl rfl (fun e => by cases e) (fun ad e => by cases e; exact cells_pair _ _ _ _) (fun u hu => by simp [veC] at hu; rcases hu with rfl | rfl <;> rfl) (by unfold maxLen; omega) (by omega) (by simp; omega) ?_)
          intro v9 w9 hown9 hX9 hat9
          have hX19 : Only (Value.slice (some ⟨g, 0, none⟩) nv vcap).ownBlock.toList wk w9 := (Only.alloc _ wk _).trans hX9
          have hVs : Vs A 4096 tb base (i + 1) S8 t8 fs8 c8 (vs ++ [V8]) v9 w9 := by
            refine HV8.out.snoc HVE.out (by rw [HNV.out]; exact hown9) hX19 (fun b hb => by simpa using hb) (fun b hb => ?_) (fun _ e => ?_) (by rw [HNV.out]; omega)
            · rcases hat9 b hb with h | h
              · exact Or.inl h
              · right; have : wk.heap.size + 1 ≤ b := by simpa using h
                omega
            · have h1 := HVG.out
              simp [Value.ownBlock] at e
              omega
          have HVS := Lib.hid hVs
          have HX9 : Hid (Only [] w w9) := Lib.hid (HX8.out.past hX19 (fun b hb => by
            right
            have h1 := (HOW.out.lt b (by simpa using hb)).1
            have := HLW.out
            omega))
          clear hown9 hX9 hat9 hX19 hVs b0 b1 hiv hz0 hz1 hz2
          go_wp2_with fail
          go_roundg (gk - 1)
          case measure => have := HI.out; omega
          case rel => exact ⟨i + 1, S8, t8, fs8, c8, vs ++ [V8], by have := HI.out; omega, by go_num, HVS.out, HX9.out⟩
    · have hil : i = len := by omega
      subst hil
      clear hi hlt
      obtain ⟨j, hj, hm1, hm2, hm3⟩ := place_of a nv hnv1 (by omega)
      obtain ⟨j2, hj2, hp1, hp2, hp3⟩ := place_of b nv hnv1 (by omega)
      obtain ⟨V, hVj⟩ : ∃ V, vs[j]? = some V := ⟨_, List.getElem?_eq_getElem (by omega)⟩
      obtain ⟨U, hUj⟩ : ∃ U, vs[j2]? = some U := ⟨_, List.getElem?_eq_getElem (by omega)⟩
      obtain ⟨v0, v1⟩ := hcells j V hVj
      obtain ⟨u0, u1⟩ := hcells j2 U hUj
      have HVU : Hid (V ∈ vs ∧ U ∈ vs) := Lib.hid ⟨List.mem_of_getElem? hVj, List.mem_of_getElem? hUj⟩
      rw [hnv] at hnc ⊢
      obtain ⟨rt, hrt⟩ : ∃ u, rootOf S V.ox = u := ⟨_, rfl⟩
      obtain ⟨pl, hpl⟩ : ∃ u, (prs V.ox).length = u := ⟨_, rfl⟩
      obtain ⟨va, hva⟩ : ∃ u, V.ao = u := ⟨_, rfl⟩
      obtain ⟨vc, hvc⟩ : ∃ u, V.cap = u := ⟨_, rfl⟩
      obtain ⟨ru, hru⟩ : ∃ u, rootOf S U.ox = u := ⟨_, rfl⟩
      obtain ⟨ql, hql⟩ : ∃ u, (prs U.ox).length = u := ⟨_, rfl⟩
      obtain ⟨ua, hua⟩ : ∃ u, U.ao = u := ⟨_, rfl⟩
      obtain ⟨uc, huc⟩ : ∃ u, U.cap = u := ⟨_, rfl⟩
      rw [hrt] at v0
      rw [hpl, hva, hvc] at v1
      rw [hru] at u0
      rw [hql, hua, huc] at u1
      have HVN := Lib.hid (show rootOf S V.ox = rt ∧ (prs V.ox).length = pl ∧ V.ao = va ∧ V.cap = vc ∧ rootOf S U.ox = ru ∧ (prs U.ox).length = ql ∧ U.ao = ua ∧ U.cap = uc from ⟨hrt, hpl, hva, hvc, hru, hql, hua, huc⟩)
      have hjj : (j : Int) < nv := by omega
      have hjj2 : (j2 : Int) < nv := by omega
      have hn0 : ¬ ((nv : Int) = 0) := by omega
      have hn1 : ¬ (nv = 0) := by omega
      obtain ⟨T1, hT1⟩ : ∃ u, a.tmod (nv : Int) = u := ⟨_, rfl⟩
      obtain ⟨T2, hT2⟩ : ∃ u, b.tmod (nv : Int) = u := ⟨_, rfl⟩
      rw [hT1] at hm1 hm2 hm3
      rw [hT2] at hp1 hp2 hp3
      have hw1 : IntKind.i64.wrap T1 = T1 := IntWalk.i64_in _ ⟨by omega, by omega⟩
      have hw2 : IntKind.i64.wrap (T1 + (nv : Int)) = T1 + (nv : Int) := IntWalk.i64_in _ ⟨by omega, by omega⟩
      have hw3 : IntKind.i64.wrap (j : Int) = (j : Int) := IntWalk.i64_in _ ⟨by omega, by omega⟩
      have hw4 : IntKind.i64.wrap T2 = T2 := IntWalk.i64_in _ ⟨by omega, by omega⟩
      have hw5 : IntKind.i64.wrap (T2 + (nv : Int)) = T2 + (nv : Int) := IntWalk.i64_in _ ⟨by omega, by omega⟩
      have hw6 : IntKind.i64.wrap (j2 : Int) = (j2 : Int) := IntWalk.i64_in _ ⟨by omega, by omega⟩
      have HGL : Hid (g < wr.heap.size) := Lib.hid hgl
      clear hcells hVj hUj hV hXr hnv hrt hpl hva hvc hru hql hua huc hez
      go_upto_region 18 with fail
      go_cut [15, 16] (fun s15 s16 wc => ∃ bx bz, s15 = .pointer (some ⟨bx, 0, none⟩) ∧ s16 = .pointer (some ⟨bz, 0, none⟩) ∧ bx ≠ bz ∧ wr.heap.size ≤ bx ∧ wr.heap.size ≤ bz ∧ Blk wc bx #[.int .i64 rt, .slice va pl vc] 33 ∧ Blk wc bz #[.int .i64 ru, .slice ua ql uc] 33 ∧ Only [] wr wc)
      case first =>
        have hvz := ver_zero
        have HSC : Hid (∀ X W, Only X wr W → g ∉ X → W.cell? ⟨g, j * 2, none⟩ = some (.int .i64 rt) ∧ W.cell? ⟨g, j * 2 + 1, none⟩ = some (.slice va pl vc) ∧ W.cell? ⟨g, j2 * 2, none⟩ = some (.int .i64 ru) ∧ W.cell? ⟨g, j2 * 2 + 1, none⟩ = some (.slice ua ql uc)) := Lib.hid (fun X W o h2 => ⟨keep_off o h2 v0, keep_off o h2 v1, keep_off o h2 u0, keep_off o h2 u1⟩)
        obtain ⟨d0, d1, d2, d3⟩ := HSC.out [] wr.drew (Only.drew _ _) (by simp)
        have HGN : Hid (g ∉ [wr.heap.size, wr.heap.size + 1]) := Lib.hid (by simp; omega)
        go_region_held3 (fun W => W.cell? ⟨g, j * 2, none⟩ = some (.int .i64 rt) ∧ W.cell? ⟨g, j * 2 + 1, none⟩ = some (.slice va pl vc) ∧ W.cell? ⟨g, j2 * 2, none⟩ = some (.int .i64 ru) ∧ W.cell? ⟨g, j2 * 2 + 1, none⟩ = some (.slice ua ql uc))
          (first | with_reducible exact ⟨d0, d1, d2, d3⟩ | (refine HSC.out [wr.heap.size, wr.heap.size + 1] _ ?_ HGN.out; repeat' (first | with_reducible exact Only.drew _ _ | with_reducible exact Only.refl _ _ | with_reducible refine Only.trans ?_ (Only.alloc _ _ _) | with_reducible refine Only.trans ?_ (Only.setCell _ (by simp) _) | with_reducible refine Only.trans ?_ (Only.drew _ _))))
          (fail)
        all_goals go_wp2_with fail
        all_goals go_meet
        all_goals
          refine ⟨_, _, rfl, rfl, by omega, by omega, by omega, ?_, ?_, (two_new _ _ _ _ _).2.2⟩ <;> first | exact (two_new _ _ _ _ _).1 | exact (two_new _ _ _ _ _).2.1
      case rest =>
        obtain ⟨wk, hwk⟩ : ∃ x, x = wc := ⟨_, rfl⟩
        subst hwk
        obtain ⟨bx, bz, rfl, rfl, hne, hbx, hbz, hX, hZ, hO2⟩ := hcut
        have hVk := HV.out.plain hO2
        have hVe := hVk.each V HVU.out.1
        have hUe := hVk.each U HVU.out.2
        have HNE := Lib.hid hne
        have HBXL : Hid (wr.heap.size ≤ bx ∧ w.heap.size ≤ bx) := Lib.hid ⟨hbx, by have := HXR.out.size; omega⟩
        have HUL : Hid (prs U.ox ≠ [] → U.g < wr.heap.size) := Lib.hid (fun he => (HV.out.each U HVU.out.2).lt he)
        have HVL : Hid (prs V.ox ≠ [] → V.g < wr.heap.size) := Lib.hid (fun he => (HV.out.each V HVU.out.1).lt he)
        have HLU : Hid ((prs U.ox).length ≤ 120 ∧ (prs V.ox).length ≤ 120) := Lib.hid ⟨by have := hUe.len; omega, by have := hVe.len; omega⟩
        have HVK := Lib.hid hVk
        have HRV := Lib.hid (And.intro hVe.rep (And.intro hVe.row (And.intro hUe.rep hUe.row)))
        have HX := Lib.hid hX
        have HZ := Lib.hid hZ
        have HOK := Lib.hid (HXR.out.trans hO2)
        have x0 := hX.cell 0 rfl
        have z0 := hZ.cell 0 rfl
        clear hVk hVe hUe hne hbx hbz hX hZ hO2 v0 v1 u0 u1 hw1 hw2 hw3 hw4 hw5 hw6
        go_wp2_with fail
        refine trie_diff.mono ?_
        rintro e w5 ⟨p0, p1, p2, p3, rfl, q0, q1, q2, q3, _, _, _, _, hX5⟩
        have hcc : cntO V.ox + cntO U.ox ≤ 1000000 := by have := HLU.out; rw [cntO_prs, cntO_prs]; omega
        have hcc2 : cntO V.ox + cntO V.ox ≤ 1000000 := by have := HLU.out; rw [cntO_prs]; omega
        have HGV := Lib.hid (given_diff (HVK.out.plain hX5).tr HRV.out.1 HRV.out.2.2.1 hcc q0 q1 (by rw [HVN.out.1]; exact q2) (by rw [HVN.out.2.2.2.2.1]; exact q3))
        have HX5 := Lib.hid hX5
        clear hX5 q0 q1 q2 q3 hcc x0 z0
        go_wp2_with fail
        refine HGV.out.mono ?_
        rintro e w6 ⟨v6, rfl, hown6, hX6⟩
        obtain ⟨ad6, cap6, rfl⟩ := own_slice_any hown6
        obtain ⟨M, hM⟩ : ∃ u, md (prs V.ox) (prs U.ox) = u := ⟨_, rfl⟩
        rw [hM] at hown6 ⊢
        obtain ⟨ml, hml⟩ : ∃ u, M.length = u := ⟨_, rfl⟩
        rw [hml] at hown6 ⊢
        have HM := Lib.hid (And.intro hM hml)
        have hml2 : ml ≤ 240 := by
          have := md_length _ (prs V.ox) (prs U.ox) (Nat.le_refl _)
          rw [hM, hml] at this
          have := HLU.out
          omega
        have HO6 := Lib.hid hown6
        have HX6 := Lib.hid (HX5.out.trans hX6)
        have h56 : bx < w5.heap.size ∧ bz < w5.heap.size := ⟨(HX.out.only HX5.out (by simp)).lt, (HZ.out.only HX5.out (by simp)).lt⟩
        have H56 := Lib.hid h56
        have x0 := (HX.out.only HX6.out (by simp)).cell 0 rfl
        clear hown6 hX6 HGV hM hml h56
        go_wp2_with fail
        refine trie_diff.mono ?_
        rintro e w7 ⟨p0, p1, p2, p3, rfl, q0, q1, q2, q3, _, _, _, _, hX7⟩
        have HX7 := Lib.hid (HX6.out.trans hX7)
        have HGV := Lib.hid (given_diff (HVK.out.plain HX7.out).tr HRV.out.1 HRV.out.1 hcc2 q0 q1 (by rw [HVN.out.1]; exact q2) (by rw [HVN.out.1]; exact q3))
        rw [md_same] at HGV
        have HO7 := Lib.hid (ownsRow_only HO6.out hX7 (by simp))
        clear hX7 q0 q1 q2 q3 hcc2 x0 HO6
        go_wp2_with fail
        refine HGV.out.mono ?_
        rintro e w8 ⟨v8, rfl, hown8, hX8⟩
        obtain ⟨ad8, cap8, rfl⟩ := own_slice_any hown8
        have HX8 := Lib.hid (HX7.out.trans hX8)
        have HO8 := Lib.hid (ownsRow_only HO7.out hX8 (by simp))
        have HDB : Hid (∀ b, (Value.slice ad6 ml cap6).ownBlock = some b → bx < b) := Lib.hid (fun b hb => by have := (HO8.out.lt b hb).1; have := H56.out; omega)
        have hnl : ([] : List Ch2).length = 0 := rfl
        rw [hnl]
        clear hown8 hX8 HGV HO7 hnl
        go_wp2_with fail
        go_loopg [23, 24, 25, 26, 27, 28, 29] ml (fun gk s23 s24 s25 s26 s27 s28 s29 wr2 => ∃ (q : Nat) (last : Int) (cur : List KV) (gc : Nat) (ac : Option Addr) (cc : Nat), q + gk = ml ∧ s24 = .int .i64 (q : Nat) ∧ s23 = .int .i64 last ∧ Patch last cur (prs U.ox) (M.drop q) ∧ Blk wr2 bx #[.int .i64 rt, .slice ac cur.length cc] 33 ∧ Blk wr2 bz #[.int .i64 ru, .slice ua ql uc] 33 ∧ RowP wr2 gc ac cc cur ∧ RowP wr2 U.g ua uc (prs U.ox) ∧ (cur ≠ [] → bx ≠ gc) ∧ wr2.ownsRow w5.heap.size 47 5 (.slice ad6 ml cap6) ml (chgsC M) ∧ cur.length ≤ 200 + q ∧ Only [] w wr2 ∧ w8.heap.size ≤ wr2.heap.size)
        case atStart =>
          refine ⟨0, -1, prs V.ox, V.g, va, vc, by omega, rfl, rfl, ?_, ?_, HZ.out.only HX8.out (by simp), ?_, ?_, fun he e => ?_, HO8.out, by have := HLU.out; omega, HOK.out.trans HX8.out, Nat.le_refl _⟩
          · rw [List.drop_zero, ← HM.out.1]
            exact patch_start (prs_rising HRV.out.1) (prs_rising HRV.out.2.2.1) (prs_low HRV.out.1) (prs_low HRV.out.2.2.1)
          · rw [HVN.out.2.1]; exact HX.out.only HX8.out (by simp)
          · have := HRV.out.2.1.only HX8.out (by simp); rw [HVN.out.2.2.1, HVN.out.2.2.2.1] at this; exact this
          · have := HRV.out.2.2.2.only HX8.out (by simp); rw [HVN.out.2.2.2.2.2.2.1, HVN.out.2.2.2.2.2.2.2] at this; exact this
          · have := HVL.out he; have := HBXL.out; omega
        case round =>
          obtain ⟨wr2, hwr2⟩ : ∃ x, x = wr := ⟨_, rfl⟩
          subst hwr2
          obtain ⟨q, last, cur, gc, ac, cc, hq, rfl, rfl, hPa, hBx, hBz, hRc, hRu, hgc, hownq, hlen2, hXq, hsq⟩ := hrel
          by_cases hqm : q < ml
          · obtain ⟨c, hc⟩ : ∃ c, M[q]? = some c := ⟨_, List.getElem?_eq_getElem (by rw [HM.out.2]; omega)⟩
            have hdrop : M.drop q = c :: M.drop (q + 1) := by
              have := List.drop_eq_getElem_cons (show q < M.length by rw [HM.out.2]; omega)
              rw [this]
              have h2 := List.getElem?_eq_getElem (show q < M.length by rw [HM.out.2]; omega)
              rw [hc] at h2
              simp at h2
              rw [← h2]
            rw [hdrop] at hPa
            obtain ⟨gd, had6⟩ : ∃ gd, ad6 = some ⟨gd, 0, none⟩ := by
              rcases hownq.2 with ⟨_, h0⟩ | ⟨gd, cap', cur', hv, _⟩
              · omega
              · cases hv; exact ⟨gd, rfl⟩
            subst had6
            have hcell : ∀ j u, (chgC c)[j]? = some u → wr2.cell? ⟨gd, q * 5 + j, none⟩ = some u := by
              intro j u hu
              have hj5 : j < 5 := by have := (List.getElem?_eq_some_iff.1 hu).1; simpa [chgC] using this
              have := hownq.cells (g := gd) rfl (q * 5 + j) u (by rw [chgsC_at hc j hj5]; exact hu)
              rwa [Addr.add_lit, Nat.zero_add] at this
            have HQ := Lib.hid (show q + gk = ml ∧ q < ml from ⟨hq, hqm⟩)
            have hqi : (q : Int) < ml := by omega
            clear hq hdrop hc hgc
            cases c with
            | del ck cv =>
              have k0 : wr2.cell? ⟨gd, q * 5, none⟩ = some (.int .i64 ck) := hcell 0 _ rfl
              have k1 : wr2.cell? ⟨gd, q * 5 + 1, none⟩ = some (.int .i64 cv) := hcell 1 _ rfl
              have k2 : wr2.cell? ⟨gd, q * 5 + 2, none⟩ = some (.int .i64 0) := hcell 2 _ rfl
              have k3 : wr2.cell? ⟨gd, q * 5 + 3, none⟩ = some (.bool true) := hcell 3 _ rfl
              have k4 : wr2.cell? ⟨gd, q * 5 + 4, none⟩ = some (.bool false) := hcell 4 _ rfl
              clear hcell
              have hstep := patch_step hPa
              obtain ⟨hs1, hs2, hs3, hs4, hs5, hs6⟩ := hstep
              simp only [Ch2.key, Ch2.old, Ch2.new, Ch2.had, Ch2.has] at hs1 hs2 hs3 hs4 hs5
              have HS5 := Lib.hid hs5
              have hk0 : decide (ck ≤ last) = false := by simp; omega
              have hq1 : (true == false) = false := rfl
              have hq2 : (cv == cv) = true := by simp
              have HVL1 := Lib.hid (fun W (o : Only [] wr2 W) => law_value (k := ck) (hRc.only o (by simp)) (show cur.length ≤ 1000000 by omega))
              have HVL2 := Lib.hid (fun W (o : Only [] wr2 W) => law_value (k := ck) (hRu.only o (by simp)) (show (prs U.ox).length ≤ 1000000 by have := HVN.out.2.2.2.2.2.1; have := HLU.out; omega))
              rw [hs2] at HVL1
              rw [hs3, HVN.out.2.2.2.2.2.1] at HVL2
              have HWO := Lib.hid (fun W (o : Only [] wr2 W) => law_without (k := ck) (hRc.only o (by simp)) (show cur.length ≤ 100000 by omega))
              have hll := lessL_length cur ck
              obtain ⟨cl, hcl⟩ : ∃ u, cur.length = u := ⟨_, rfl⟩
              rw [hcl] at hBx HVL1 HWO hll hlen2
              have HRS := Lib.hid (show Only [] w wr2 ∧ w8.heap.size ≤ wr2.heap.size from ⟨hXq, hsq⟩)
              have HRU := Lib.hid hRu
              have HBX := Lib.hid hBx
              have HBZ := Lib.hid hBz
              have HOWQ := Lib.hid hownq
              have HLEN := Lib.hid (And.intro hcl (And.intro hlen2 hll))
              clear hs1 hs2 hs3 hs4 hs5 hs6 hPa hRc hRu hBx hBz hownq hXq hsq hcl hlen2 hll
              go_upto_region 28 with fail
              refine wp_name (fun wa => Blk wa wr2.heap.size #[.int .i64 (ck), .int .i64 (cv), .int .i64 (0), .bool true, .bool false] 47 ∧ Only [] wr2 wa) ⟨Blk.new _ _ _, Only.alloc _ _ _⟩ ?_
              generalize wr2.heap.size = b25
              clear k0 k1 k2 k3 k4
              rintro wa ⟨hB25, hXa⟩
              have c0 := hB25.cell 0 rfl
              have x1 := (HBX.out.only hXa (by simp)).cell 1 rfl
              have HB25 := Lib.hid hB25
              have HXA := Lib.hid hXa
              clear hB25 hXa
              go_wp2_with fail
              refine (HVL1.out _ HXA.out).mono ?_
              rintro e wb ⟨rfl, hXb⟩
              have HXB := Lib.hid (HXA.out.trans hXb)
              have hB25 := HB25.out.only hXb (by simp)
              have HB25 := Lib.hid hB25
              have c0 := hB25.cell 0 rfl
              have z1 := (HBZ.out.only HXB.out (by simp)).cell 1 rfl
              clear hXb hB25 x1 HXA HVL1
              go_wp2_with fail
              refine (HVL2.out _ HXB.out).mono ?_
              rintro e wd1 ⟨rfl, hXb⟩
              have HXB := Lib.hid (HXB.out.trans hXb)
              have hB25 := HB25.out.only hXb (by simp)
              have HB25 := Lib.hid hB25
              have c0 := hB25.cell 0 rfl
              have c1 := hB25.cell 1 rfl
              have c2 := hB25.cell 2 rfl
              have c3 := hB25.cell 3 rfl
              have c4 := hB25.cell 4 rfl
              have hbx := HBX.out.only HXB.out (by simp)
              have x1 := hbx.cell 1 rfl
              have HBX2 := Lib.hid hbx
              clear hXb hB25 z1 HVL2 hbx
              go_wp2_with fail
              refine (HWO.out _ HXB.out).mono ?_
              rintro e we ⟨v9, rfl, hown9, hX9⟩
              obtain ⟨g9, ao9, cap9, rfl, hR9, hg9, hg9b, _⟩ := rowp_own hown9
              have hbx := HBX2.out.only hX9 (by simp)
              have x1 := hbx.cell 1 rfl
              have f1 := hbx.free 1
              have HBX3 := Lib.hid hbx
              have HXE := Lib.hid (HXB.out.trans hX9)
              have HR9 := Lib.hid hR9
              have hg9l : wd1.heap.size ≤ g9 := hg9
              have hbl : bx < wd1.heap.size := HBX2.out.lt
              have HG9 : Hid (bx ≠ g9) := Lib.hid (by omega)
              have c0 := (HB25.out.only hX9 (by simp)).cell 0 rfl
              have HB25e := Lib.hid (HB25.out.only hX9 (by simp))
              clear hown9 hX9 hR9 hg9 hg9b hg9l hbl hbx c1 c2 c3 c4 HWO
              go_wp2_with fail
              have hXs : Only [bx] we (we.setCell ⟨bx, 1, none⟩ (.slice ao9 (lessL cur (ck)).length cap9)) := Only.setCell _ (by simp) _
              have hB9 := HBX3.out.set_same 1 (.slice ao9 (lessL cur (ck)).length cap9)
              generalize we.setCell ⟨bx, 1, none⟩ (.slice ao9 (lessL cur (ck)).length cap9) = wz at hXs hB9 ⊢
              have HXS := Lib.hid hXs
              have HB9 := Lib.hid hB9
              clear hXs hB9 x1 f1 c0
              go_roundg (gk - 1)
              case measure => have := HQ.out.1; omega
              case rel =>
                have hXt : Only [bx] wr2 wz := (HXE.out.mono (by simp)).trans HXS.out
                exact ⟨q + 1, ck, lessL cur (ck), g9, ao9, cap9, by have := HQ.out.1; omega, by go_num, rfl, HS5.out, HB9.out, HBZ.out.only hXt (by simp; exact fun e => HNE.out e.symm), HR9.out.only HXS.out (by simp; exact fun e => HG9.out e.symm), HRU.out.only2 hXt (fun he hm => by have := HUL.out he; have := HBXL.out; simp at hm; omega), fun _ => HG9.out, ownsRow_only HOWQ.out hXt (fun b hb hm => by have := HDB.out b hb; simp at hm; omega), by have := HLEN.out; have := HQ.out.2; omega, (HRS.out.1.past hXt (fun b hb => by simp at hb; right; have := HBXL.out; omega)), Nat.le_trans HRS.out.2 hXt.size⟩
            | add ck cv =>
              have k0 : wr2.cell? ⟨gd, q * 5, none⟩ = some (.int .i64 ck) := hcell 0 _ rfl
              have k1 : wr2.cell? ⟨gd, q * 5 + 1, none⟩ = some (.int .i64 0) := hcell 1 _ rfl
              have k2 : wr2.cell? ⟨gd, q * 5 + 2, none⟩ = some (.int .i64 cv) := hcell 2 _ rfl
              have k3 : wr2.cell? ⟨gd, q * 5 + 3, none⟩ = some (.bool false) := hcell 3 _ rfl
              have k4 : wr2.cell? ⟨gd, q * 5 + 4, none⟩ = some (.bool true) := hcell 4 _ rfl
              clear hcell
              have hstep := patch_step hPa
              obtain ⟨hs1, hs2, hs3, hs4, hs5, hs6⟩ := hstep
              simp only [Ch2.key, Ch2.old, Ch2.new, Ch2.had, Ch2.has] at hs1 hs2 hs3 hs4 hs5
              have HS5 := Lib.hid hs5
              have hk0 : decide (ck ≤ last) = false := by simp; omega
              have hq1 : (false == true) = false := rfl
              have hq2 : (0 == 0) = true := by simp
              have HVL1 := Lib.hid (fun W (o : Only [] wr2 W) => law_value (k := ck) (hRc.only o (by simp)) (show cur.length ≤ 1000000 by omega))
              have HVL2 := Lib.hid (fun W (o : Only [] wr2 W) => law_value (k := ck) (hRu.only o (by simp)) (show (prs U.ox).length ≤ 1000000 by have := HVN.out.2.2.2.2.2.1; have := HLU.out; omega))
              rw [hs2] at HVL1
              rw [hs3, HVN.out.2.2.2.2.2.1] at HVL2
              have HWO := Lib.hid (fun W (o : Only [] wr2 W) => law_without (k := ck) (hRc.only o (by simp)) (show cur.length ≤ 100000 by omega))
              have hll := lessL_length cur ck
              obtain ⟨cl, hcl⟩ : ∃ u, cur.length = u := ⟨_, rfl⟩
              rw [hcl] at hBx HVL1 HWO hll hlen2
              have HRS := Lib.hid (show Only [] w wr2 ∧ w8.heap.size ≤ wr2.heap.size from ⟨hXq, hsq⟩)
              have HRU := Lib.hid hRu
              have HBX := Lib.hid hBx
              have HBZ := Lib.hid hBz
              have HOWQ := Lib.hid hownq
              have HLEN := Lib.hid (And.intro hcl (And.intro hlen2 hll))
              clear hs1 hs2 hs3 hs4 hs5 hs6 hPa hRc hRu hBx hBz hownq hXq hsq hcl hlen2 hll
              go_upto_region 28 with fail
              refine wp_name (fun wa => Blk wa wr2.heap.size #[.int .i64 (ck), .int .i64 (0), .int .i64 (cv), .bool false, .bool true] 47 ∧ Only [] wr2 wa) ⟨Blk.new _ _ _, Only.alloc _ _ _⟩ ?_
              have HBN : Hid (bx < wr2.heap.size) := Lib.hid HBX.out.lt
              generalize wr2.heap.size = b25 at HBN ⊢
              clear k0 k1 k2 k3 k4
              rintro wa ⟨hB25, hXa⟩
              have c0 := hB25.cell 0 rfl
              have x1 := (HBX.out.only hXa (by simp)).cell 1 rfl
              have HB25 := Lib.hid hB25
              have HXA := Lib.hid hXa
              clear hB25 hXa
              go_wp2_with fail
              refine (HVL1.out _ HXA.out).mono ?_
              rintro e wb ⟨rfl, hXb⟩
              have HXB := Lib.hid (HXA.out.trans hXb)
              have hB25 := HB25.out.only hXb (by simp)
              have HB25 := Lib.hid hB25
              have c0 := hB25.cell 0 rfl
              have z1 := (HBZ.out.only HXB.out (by simp)).cell 1 rfl
              clear hXb hB25 x1 HXA HVL1
              go_wp2_with fail
              refine (HVL2.out _ HXB.out).mono ?_
              rintro e wd1 ⟨rfl, hXb⟩
              have HXB := Lib.hid (HXB.out.trans hXb)
              have hB25 := HB25.out.only hXb (by simp)
              have HB25 := Lib.hid hB25
              have c0 := hB25.cell 0 rfl
              have c1 := hB25.cell 1 rfl
              have c2 := hB25.cell 2 rfl
              have c3 := hB25.cell 3 rfl
              have c4 := hB25.cell 4 rfl
              have hbx := HBX.out.only HXB.out (by simp)
              have x1 := hbx.cell 1 rfl
              have HBX2 := Lib.hid hbx
              clear hXb hB25 z1 HVL2 hbx
              go_wp2_with fail
              refine (HWO.out _ HXB.out).mono ?_
              rintro e we ⟨v9, rfl, hown9, hX9⟩
              obtain ⟨g9, ao9, cap9, rfl, hR9, hg9, hg9b, _⟩ := rowp_own hown9
              have hbx := HBX2.out.only hX9 (by simp)
              have x1 := hbx.cell 1 rfl
              have f1 := hbx.free 1
              have HBX3 := Lib.hid hbx
              have HXE := Lib.hid (HXB.out.trans hX9)
              have HR9 := Lib.hid hR9
              have hg9l : wd1.heap.size ≤ g9 := hg9
              have hbl : bx < wd1.heap.size := HBX2.out.lt
              have HG9 : Hid (bx ≠ g9) := Lib.hid (by omega)
              have c0 := (HB25.out.only hX9 (by simp)).cell 0 rfl
              have HB25e := Lib.hid (HB25.out.only hX9 (by simp))
              clear hown9 hX9 hR9 hg9 hg9b hg9l hbl hbx c1 c2 c3 c4 HWO
              have HWI := Lib.hid (fun W (o : Only [bx] we W) => law_with (k := ck) (u := cv) (HR9.out.only o (by simp; exact fun e => HG9.out e.symm)) (show (lessL cur (ck)).length ≤ 100000 by have := HLEN.out; omega))
              obtain ⟨ll, hll⟩ : ∃ u, (lessL cur (ck)).length = u := ⟨_, rfl⟩
              have hwl := withL_length (lessL cur (ck)) (ck) (cv)
              rw [hll] at HWI hwl ⊢
              have HLL := Lib.hid (And.intro hll hwl)
              clear hll hwl
              go_upto_region 35 with fail
              have hXs : Only [bx] we (we.setCell ⟨bx, 1, none⟩ (.slice ao9 ll cap9)) := Only.setCell _ (by simp) _
              have hB9 := HBX3.out.set_same 1 (.slice ao9 ll cap9)
              have hc0 := (HB25e.out.only hXs (by simp; have := HBN.out; omega)).cell 0 rfl
              generalize we.setCell ⟨bx, 1, none⟩ (.slice ao9 ll cap9) = wz at hXs hB9 hc0 ⊢
              have HXS := Lib.hid hXs
              have hB9' : Blk wz bx #[.int .i64 rt, .slice ao9 ll cap9] 33 := hB9
              have x1 := hB9'.cell 1 rfl
              have HB9 := Lib.hid hB9'
              clear hXs hB9 hB9' f1 c0
              go_wp2_with fail
              refine (HWI.out _ HXS.out).mono ?_
              rintro e wy ⟨v8b, rfl, hown9, hX9⟩
              obtain ⟨g7, ao7, cap7, rfl, hR7, hg7, hg7b, _⟩ := rowp_own hown9
              have hbx := HB9.out.only hX9 (by simp)
              have x1 := hbx.cell 1 rfl
              have f1 := hbx.free 1
              have HBX4 := Lib.hid hbx
              have HR7 := Lib.hid hR7
              have hbl : bx < wz.heap.size := HB9.out.lt
              have HG7 : Hid (bx ≠ g7) := Lib.hid (by omega)
              have HX9 := Lib.hid hX9
              clear hown9 hX9 hR7 hg7 hg7b hbl hbx hc0 HWI
              go_wp2_with fail
              have hXs : Only [bx] wy (wy.setCell ⟨bx, 1, none⟩ (.slice ao7 (withL (lessL cur (ck)) (ck) (cv)).length cap7)) := Only.setCell _ (by simp) _
              have hB9 := HBX4.out.set_same 1 (.slice ao7 (withL (lessL cur (ck)) (ck) (cv)).length cap7)
              generalize wy.setCell ⟨bx, 1, none⟩ (.slice ao7 (withL (lessL cur (ck)) (ck) (cv)).length cap7) = wx at hXs hB9 ⊢
              have HXS2 := Lib.hid hXs
              have HB9 := Lib.hid hB9
              clear hXs hB9 x1 f1
              go_roundg (gk - 1)
              case measure => have := HQ.out.1; omega
              case rel =>
                have hXt : Only [bx] wr2 wx := (((HXE.out.mono (by simp)).trans HXS.out).trans (HX9.out.mono (by simp))).trans HXS2.out
                exact ⟨q + 1, ck, withL (lessL cur (ck)) (ck) (cv), g7, ao7, cap7, by have := HQ.out.1; omega, by go_num, rfl, HS5.out, HB9.out, HBZ.out.only hXt (by simp; exact fun e => HNE.out e.symm), HR7.out.only HXS2.out (by simp; exact fun e => HG7.out e.symm), HRU.out.only2 hXt (fun he hm => by have := HUL.out he; have := HBXL.out; simp at hm; omega), fun _ => HG7.out, ownsRow_only HOWQ.out hXt (fun b hb hm => by have := HDB.out b hb; simp at hm; omega), by have := HLEN.out; have := HLL.out; have := HQ.out.2; omega, (HRS.out.1.past hXt (fun b hb => by simp at hb; right; have := HBXL.out; omega)), Nat.le_trans HRS.out.2 hXt.size⟩
            | chg ck cv cu =>
              have k0 : wr2.cell? ⟨gd, q * 5, none⟩ = some (.int .i64 ck) := hcell 0 _ rfl
              have k1 : wr2.cell? ⟨gd, q * 5 + 1, none⟩ = some (.int .i64 cv) := hcell 1 _ rfl
              have k2 : wr2.cell? ⟨gd, q * 5 + 2, none⟩ = some (.int .i64 cu) := hcell 2 _ rfl
              have k3 : wr2.cell? ⟨gd, q * 5 + 3, none⟩ = some (.bool true) := hcell 3 _ rfl
              have k4 : wr2.cell? ⟨gd, q * 5 + 4, none⟩ = some (.bool true) := hcell 4 _ rfl
              clear hcell
              have hstep := patch_step hPa
              obtain ⟨hs1, hs2, hs3, hs4, hs5, hs6⟩ := hstep
              simp only [Ch2.key, Ch2.old, Ch2.new, Ch2.had, Ch2.has] at hs1 hs2 hs3 hs4 hs5
              have HS5 := Lib.hid hs5
              have hk0 : decide (ck ≤ last) = false := by simp; omega
              have hq1 : (cv == cu) = false := by simp at hs4 ⊢; exact hs4
              have hq2 : (cv == cv) = true := by simp
              have HVL1 := Lib.hid (fun W (o : Only [] wr2 W) => law_value (k := ck) (hRc.only o (by simp)) (show cur.length ≤ 1000000 by omega))
              have HVL2 := Lib.hid (fun W (o : Only [] wr2 W) => law_value (k := ck) (hRu.only o (by simp)) (show (prs U.ox).length ≤ 1000000 by have := HVN.out.2.2.2.2.2.1; have := HLU.out; omega))
              rw [hs2] at HVL1
              rw [hs3, HVN.out.2.2.2.2.2.1] at HVL2
              have HWO := Lib.hid (fun W (o : Only [] wr2 W) => law_without (k := ck) (hRc.only o (by simp)) (show cur.length ≤ 100000 by omega))
              have hll := lessL_length cur ck
              obtain ⟨cl, hcl⟩ : ∃ u, cur.length = u := ⟨_, rfl⟩
              rw [hcl] at hBx HVL1 HWO hll hlen2
              have HRS := Lib.hid (show Only [] w wr2 ∧ w8.heap.size ≤ wr2.heap.size from ⟨hXq, hsq⟩)
              have HRU := Lib.hid hRu
              have HBX := Lib.hid hBx
              have HBZ := Lib.hid hBz
              have HOWQ := Lib.hid hownq
              have HLEN := Lib.hid (And.intro hcl (And.intro hlen2 hll))
              clear hs1 hs2 hs3 hs4 hs5 hs6 hPa hRc hRu hBx hBz hownq hXq hsq hcl hlen2 hll
              go_upto_region 28 with fail
              refine wp_name (fun wa => Blk wa wr2.heap.size #[.int .i64 (ck), .int .i64 (cv), .int .i64 (cu), .bool true, .bool true] 47 ∧ Only [] wr2 wa) ⟨Blk.new _ _ _, Only.alloc _ _ _⟩ ?_
              have HBN : Hid (bx < wr2.heap.size) := Lib.hid HBX.out.lt
              generalize wr2.heap.size = b25 at HBN ⊢
              clear k0 k1 k2 k3 k4
              rintro wa ⟨hB25, hXa⟩
              have c0 := hB25.cell 0 rfl
              have x1 := (HBX.out.only hXa (by simp)).cell 1 rfl
              have HB25 := Lib.hid hB25
              have HXA := Lib.hid hXa
              clear hB25 hXa
              go_wp2_with fail
              refine (HVL1.out _ HXA.out).mono ?_
              rintro e wb ⟨rfl, hXb⟩
              have HXB := Lib.hid (HXA.out.trans hXb)
              have hB25 := HB25.out.only hXb (by simp)
              have HB25 := Lib.hid hB25
              have c0 := hB25.cell 0 rfl
              have z1 := (HBZ.out.only HXB.out (by simp)).cell 1 rfl
              clear hXb hB25 x1 HXA HVL1
              go_wp2_with fail
              refine (HVL2.out _ HXB.out).mono ?_
              rintro e wd1 ⟨rfl, hXb⟩
              have HXB := Lib.hid (HXB.out.trans hXb)
              have hB25 := HB25.out.only hXb (by simp)
              have HB25 := Lib.hid hB25
              have c0 := hB25.cell 0 rfl
              have c1 := hB25.cell 1 rfl
              have c2 := hB25.cell 2 rfl
              have c3 := hB25.cell 3 rfl
              have c4 := hB25.cell 4 rfl
              have hbx := HBX.out.only HXB.out (by simp)
              have x1 := hbx.cell 1 rfl
              have HBX2 := Lib.hid hbx
              clear hXb hB25 z1 HVL2 hbx
              go_wp2_with fail
              refine (HWO.out _ HXB.out).mono ?_
              rintro e we ⟨v9, rfl, hown9, hX9⟩
              obtain ⟨g9, ao9, cap9, rfl, hR9, hg9, hg9b, _⟩ := rowp_own hown9
              have hbx := HBX2.out.only hX9 (by simp)
              have x1 := hbx.cell 1 rfl
              have f1 := hbx.free 1
              have HBX3 := Lib.hid hbx
              have HXE := Lib.hid (HXB.out.trans hX9)
              have HR9 := Lib.hid hR9
              have hg9l : wd1.heap.size ≤ g9 := hg9
              have hbl : bx < wd1.heap.size := HBX2.out.lt
              have HG9 : Hid (bx ≠ g9) := Lib.hid (by omega)
              have c0 := (HB25.out.only hX9 (by simp)).cell 0 rfl
              have HB25e := Lib.hid (HB25.out.only hX9 (by simp))
              clear hown9 hX9 hR9 hg9 hg9b hg9l hbl hbx c1 c2 c3 c4 HWO
              have HWI := Lib.hid (fun W (o : Only [bx] we W) => law_with (k := ck) (u := cu) (HR9.out.only o (by simp; exact fun e => HG9.out e.symm)) (show (lessL cur (ck)).length ≤ 100000 by have := HLEN.out; omega))
              obtain ⟨ll, hll⟩ : ∃ u, (lessL cur (ck)).length = u := ⟨_, rfl⟩
              have hwl := withL_length (lessL cur (ck)) (ck) (cu)
              rw [hll] at HWI hwl ⊢
              have HLL := Lib.hid (And.intro hll hwl)
              clear hll hwl
              go_upto_region 35 with fail
              have hXs : Only [bx] we (we.setCell ⟨bx, 1, none⟩ (.slice ao9 ll cap9)) := Only.setCell _ (by simp) _
              have hB9 := HBX3.out.set_same 1 (.slice ao9 ll cap9)
              have hc0 := (HB25e.out.only hXs (by simp; have := HBN.out; omega)).cell 0 rfl
              generalize we.setCell ⟨bx, 1, none⟩ (.slice ao9 ll cap9) = wz at hXs hB9 hc0 ⊢
              have HXS := Lib.hid hXs
              have hB9' : Blk wz bx #[.int .i64 rt, .slice ao9 ll cap9] 33 := hB9
              have x1 := hB9'.cell 1 rfl
              have HB9 := Lib.hid hB9'
              clear hXs hB9 hB9' f1 c0
              go_wp2_with fail
              refine (HWI.out _ HXS.out).mono ?_
              rintro e wy ⟨v8b, rfl, hown9, hX9⟩
              obtain ⟨g7, ao7, cap7, rfl, hR7, hg7, hg7b, _⟩ := rowp_own hown9
              have hbx := HB9.out.only hX9 (by simp)
              have x1 := hbx.cell 1 rfl
              have f1 := hbx.free 1
              have HBX4 := Lib.hid hbx
              have HR7 := Lib.hid hR7
              have hbl : bx < wz.heap.size := HB9.out.lt
              have HG7 : Hid (bx ≠ g7) := Lib.hid (by omega)
              have HX9 := Lib.hid hX9
              clear hown9 hX9 hR7 hg7 hg7b hbl hbx hc0 HWI
              go_wp2_with fail
              have hXs : Only [bx] wy (wy.setCell ⟨bx, 1, none⟩ (.slice ao7 (withL (lessL cur (ck)) (ck) (cu)).length cap7)) := Only.setCell _ (by simp) _
              have hB9 := HBX4.out.set_same 1 (.slice ao7 (withL (lessL cur (ck)) (ck) (cu)).length cap7)
              generalize wy.setCell ⟨bx, 1, none⟩ (.slice ao7 (withL (lessL cur (ck)) (ck) (cu)).length cap7) = wx at hXs hB9 ⊢
              have HXS2 := Lib.hid hXs
              have HB9 := Lib.hid hB9
              clear hXs hB9 x1 f1
              go_roundg (gk - 1)
              case measure => have := HQ.out.1; omega
              case rel =>
                have hXt : Only [bx] wr2 wx := (((HXE.out.mono (by simp)).trans HXS.out).trans (HX9.out.mono (by simp))).trans HXS2.out
                exact ⟨q + 1, ck, withL (lessL cur (ck)) (ck) (cu), g7, ao7, cap7, by have := HQ.out.1; omega, by go_num, rfl, HS5.out, HB9.out, HBZ.out.only hXt (by simp; exact fun e => HNE.out e.symm), HR7.out.only HXS2.out (by simp; exact fun e => HG7.out e.symm), HRU.out.only2 hXt (fun he hm => by have := HUL.out he; have := HBXL.out; simp at hm; omega), fun _ => HG7.out, ownsRow_only HOWQ.out hXt (fun b hb hm => by have := HDB.out b hb; simp at hm; omega), by have := HLEN.out; have := HLL.out; have := HQ.out.2; omega, (HRS.out.1.past hXt (fun b hb => by simp at hb; right; have := HBXL.out; omega)), Nat.le_trans HRS.out.2 hXt.size⟩
          · have hqe : q = ml := by omega
            subst hqe
            have hcu : cur = prs U.ox := by
              rw [List.drop_eq_nil_of_le (by rw [HM.out.2]; exact Nat.le_refl _)] at hPa
              exact patch_end hPa
            have hlc : cur.length = ql := by rw [hcu]; exact HVN.out.2.2.2.2.2.1
            have HRP := Lib.hid (runs_pairs hRc (hcu ▸ hRu) (by omega))
            rw [hlc] at HRP hBx
            have x1 := hBx.cell 1 rfl
            have z1 := hBz.cell 1 rfl
            have HXQ := Lib.hid hXq
            clear hq hPa hBx hBz hRc hRu hgc hownq hlen2 hXq hsq hcu hlc hqm
            go_wp2_with fail
            refine HRP.out.mono ?_
            rintro e wl ⟨rfl, hXl⟩
            have HXL := Lib.hid (HXQ.out.trans hXl)
            clear hXl x1 z1 HRP
            go_wp2_with fail
            go_ret
            exact ⟨rfl, HXL.out⟩

end Go.Proofs.Ytacegkjobfeiiaa

