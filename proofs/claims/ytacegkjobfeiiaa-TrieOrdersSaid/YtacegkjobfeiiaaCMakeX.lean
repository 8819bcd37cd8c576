/- No place for a node: makes as a call. Conditions: the pool stands in memory as PoolAt says, the edit on its way as MkAt says. · A way made anew: upwards as a call. Conditions: the pool stands in memory as PoolAt says, the edit on its way as MkAt says, the way's cells as StepsAt says. -/
import Derived.Test.YtacegkjobfeiiaaCTrieI
set_option linter.unusedVariables false
set_option linter.unusedSimpArgs false
set_option linter.unusedSectionVars false
set_option linter.unnecessarySimpa false
namespace Go.Proofs.Ytacegkjobfeiiaa
open Go.RowKit

/-- There is no place: what was made has been given back. -/
def MakesNo (A : PA) (n : Nat) (S : Nat → Sl) (t : Int) (fa : Int) (tb mb : Nat) (is : List Nat) (w : World) (e : Ending) (w' : World) : Prop :=
  e = .returned (.int .i64 102) ∧ Blk w' mb #[.pointer (some ⟨tb, 0, none⟩), .pointer none, .int .i64 0, .int .i64 0, .bool false, .slice none 0 0, .slice none 0 0] 119 ∧ TrAt w' tb A n (backS S is) (t + is.length) is fa ∧ Only (mb :: A.all) w w'

set_option maxRecDepth 100000 in
set_option maxHeartbeats 4000000 in
theorem makes_no {A : PA} {n : Nat} {S : Nat → Sl} {t : Int} {fa : Int} {tb mb base : Nat} {a b c d root old : Int} {had : Bool} {gv mv : Value} {gone : List Int} {is : List Nat} {w : World} (T : TrAt w tb A n S t [] fa) (M : MkAt w mb tb base root old had gv mv gone (hnds S is)) (s : Sit mb tb base A)
    (ha : ∀ i, i ∈ is → 1 ≤ i ∧ i ≤ n ∧ (S i).gen % 2 = 1 ∧ 0 ≤ (S i).gen ∧ (S i).gen ≤ 1000000) (hd : is.Nodup) (ht : t + is.length ≤ 1000000) (hlen : is.length ≤ 4096) (hb : base ≤ w.heap.size) :
    Calls Try.prog 70 #[.pointer (some ⟨mb, 0, none⟩), .agg #[.int .i64 a, .int .i64 b, .int .i64 c, .int .i64 d]] w (MakesNo A n S t fa tb mb is w) := by
  have HT := Lib.hid T
  have HM := Lib.hid M
  have HS := Lib.hid s
  have HTK := Lib.hid (fun w H => pool_take_full A n S t fa a b c d 0 w H)
  have HB := Lib.hid hb
  have HHA := Lib.hid ha
  have HD := Lib.hid hd
  have HTT := Lib.hid ht
  have HLEN := Lib.hid hlen
  have hml : (hnds S is).length = is.length := by simp [hnds]
  have HML := Lib.hid hml
  obtain ⟨ad, cap, hmv⟩ := own_slice M.mown
  rw [hml] at hmv
  clear T M s hb ha hd ht hlen hml
  subst hmv
  go_enter Try.func70, Try.ntmps70
  go_upto_region 1 with fail
  refine wp_name (fun w1 => TrAt w1 tb A n S t [] fa ∧ MkAt w1 mb tb base root old had gv (.slice ad is.length cap) gone (hnds S is) ∧ Blk w1 w.heap.size #[.int .i64 a, .int .i64 b, .int .i64 c, .int .i64 d] 73 ∧ Only [] w w1) ⟨HT.out.plain (Only.alloc _ _ _), HM.out.plain (Only.alloc _ _ _), Blk.new _ _ _, Only.alloc _ _ _⟩ ?_
  rintro w1 ⟨hT, hM, hX, hO⟩
  have hxA : w.heap.size ∉ A.all := fun hm => by have := HS.out.a _ hm; have := HB.out; omega
  generalize w.heap.size = xb at hX hxA ⊢
  have hdr : Only [] w1 w1.drew := Only.drew _ _
  have HT1 := Lib.hid (hT.plain hdr)
  have HM1 := Lib.hid (hM.plain hdr)
  have HO1 := Lib.hid (hO.trans hdr)
  have hbm := (hM.plain hdr).blk
  have hbx := hX.only hdr (by simp)
  have hbt := (hT.plain hdr).blk
  have m0 := hbm.cell 0 rfl
  have m1 := hbm.cell 1 rfl
  have t0 := hbt.cell 0 rfl
  have x0 := hbx.cell 0 rfl
  have x1 := hbx.cell 1 rfl
  have x2 := hbx.cell 2 rfl
  have x3 := hbx.cell 3 rfl
  clear hT hM hX hO hdr hbm hbx hbt
  go_region_held3 (fun w' => w'.cell? ⟨mb, 0, none⟩ = some (.pointer (some ⟨tb, 0, none⟩)) ∧ w'.cell? ⟨mb, 1, none⟩ = some (.pointer none) ∧ w'.cell? ⟨tb, 0, none⟩ = some (.pointer (some ⟨A.p, 0, none⟩)) ∧ w'.cell? ⟨xb, 0, none⟩ = some (.int .i64 a) ∧ w'.cell? ⟨xb, 1, none⟩ = some (.int .i64 b) ∧ w'.cell? ⟨xb, 2, none⟩ = some (.int .i64 c) ∧ w'.cell? ⟨xb, 3, none⟩ = some (.int .i64 d))
    (first | exact ⟨m0, m1, t0, x0, x1, x2, x3⟩ | exact ⟨keep_cell hX3 m0, keep_cell hX3 m1, keep_cell hX3 t0, keep_cell hX3 x0, keep_cell hX3 x1, keep_cell hX3 x2, keep_cell hX3 x3⟩)
    (first | (go_at_call 90; refine (HTK.out w1.drew HT1.out.pool).mono ?_; rintro e w3 ⟨rfl, hX3⟩))
  have HT3 := Lib.hid (HT1.out.plain hX3)
  have hM3 := HM1.out.plain hX3
  have HM3 := Lib.hid hM3
  have HO3 := Lib.hid (HO1.out.trans hX3)
  have k6 := hM3.blk.cell 6 rfl
  have m0 := hM3.blk.cell 0 rfl
  have m1 := hM3.blk.cell 1 rfl
  clear hX3 HM1 HO1 HTK HT1 hM3 x0 x1 x2 x3 t0
  by_cases hn : 0 < is.length
  · have HN := Lib.hid hn
    go_upto_region 7 with fail
    obtain ⟨g, capx, rest, hv, hg, hnc, hcm, hG⟩ := own_open HM3.out.mown (by rw [HML.out]; exact hn)
    rw [HML.out] at hv hnc
    injection hv with e1 e2 e3
    subst e1
    subst e3
    have HG := Lib.hid hG
    have HNC := Lib.hid hnc
    clear hG hn hnc e2
    have hdr : Only [] w3 w3.drew := Only.drew _ _
    have HT4 := Lib.hid (HT3.out.plain hdr)
    have hM4 := HM3.out.plain hdr
    have HM4 := Lib.hid hM4
    have HO4 := Lib.hid (HO3.out.trans hdr)
    have HG4 := Lib.hid (HG.out.only hdr (by simp))
    have k6 := hM4.blk.cell 6 rfl
    have m0 := hM4.blk.cell 0 rfl
    have m1 := hM4.blk.cell 1 rfl
    clear hdr hM4
    generalize hw4 : w3.drew = w4 at *
    have HW4 := Lib.hid hw4
    clear hw4
    have hcl : ∀ (j i : Nat), is[j]? = some i → w4.cell? ⟨g, j, none⟩ = some (.int .i64 (wd i (S i).gen)) := by
      intro j i hj
      refine HG4.out.cell j ?_
      have hj2 : j < is.length := (List.getElem?_eq_some_iff.1 hj).1
      simp only [List.getElem?_toArray]
      rw [List.getElem?_append_left (by simp [hnds]; exact hj2)]
      simp [hnds, hj]
    have HU := Lib.hid (trie_undo (cap := cap) HT4.out HN.out HLEN.out HNC.out (fun hm => by have := HS.out.a g hm; omega) HG4.out.lt hcl HHA.out HD.out (fun i _ => by simp) HTT.out)
    clear hcl
    have HKP : Hid (∀ w', Only A.all w4 w' → w'.cell? ⟨mb, 0, none⟩ = some (.pointer (some ⟨tb, 0, none⟩)) ∧ w'.cell? ⟨mb, 1, none⟩ = some (.pointer none) ∧ w'.cell? ⟨mb, 6, none⟩ = some (.slice (some ⟨g, 0, none⟩) is.length cap)) := by
      intro w' h
      have h1 := HM4.out.blk.only h HS.out.m1
      exact ⟨h1.cell 0 rfl, h1.cell 1 rfl, h1.cell 6 rfl⟩
    rw [← HW4.out] at m0 m1 k6 HU HKP
    go_region_held3 (fun w' => w'.cell? ⟨mb, 0, none⟩ = some (.pointer (some ⟨tb, 0, none⟩)) ∧ w'.cell? ⟨mb, 1, none⟩ = some (.pointer none) ∧ w'.cell? ⟨mb, 6, none⟩ = some (.slice (some ⟨g, 0, none⟩) is.length cap))
      (first | exact ⟨m0, m1, k6⟩ | exact HKP.out _ hO5)
      (first | (go_at_call 21; refine HU.out.mono ?_; rintro e w5 ⟨rfl, hT5, hO5⟩))
    rw [HW4.out] at hO5
    rw [List.append_nil] at hT5
    have hM5 := HM4.out.pool HS.out hO5
    have b0 := hM5.blk.cell 0 rfl
    have b2 := hM5.blk.cell 2 rfl
    have b3 := hM5.blk.cell 3 rfl
    have b4 := hM5.blk.cell 4 rfl
    have b5 := hM5.blk.cell 5 rfl
    have b6 := hM5.blk.cell 6 rfl
    have f2 := hM5.blk.free 2
    have f3 := hM5.blk.free 3
    have f4 := hM5.blk.free 4
    have f5 := hM5.blk.free 5
    have f6 := hM5.blk.free 6
    have HM5 := Lib.hid hM5.blk
    have HT5 := Lib.hid hT5
    have HO5 := Lib.hid ((HO4.out.mono (by simp) : Only A.all w w4).trans hO5)
    clear hT5 hO5 hM5 k6 m0 m1 HU HM4 HT4 HO4 HG4
    go_wp2_with fail
    go_ret
    have hb2 := (((((HM5.out.set_same 2 (.int .i64 0)).set_same 3 (.int .i64 0)).set_same 4 (.bool false)).set_same 5 (.slice none 0 0)).set_same 6 (.slice none 0 0))
    have hX6 : Only [mb] w5 (((((w5.setCell ⟨mb, 2, none⟩ (.int .i64 0)).setCell ⟨mb, 3, none⟩ (.int .i64 0)).setCell ⟨mb, 4, none⟩ (.bool false)).setCell ⟨mb, 5, none⟩ (.slice none 0 0)).setCell ⟨mb, 6, none⟩ (.slice none 0 0)) := ((((Only.setCell _ (by simp) _).trans (Only.setCell _ (by simp) _)).trans (Only.setCell _ (by simp) _)).trans (Only.setCell _ (by simp) _)).trans (Only.setCell _ (by simp) _)
    refine ⟨rfl, by simpa using hb2, HT5.out.other hX6 (by simp; exact fun e => HS.out.m2 e.symm) (fun k hk hm => HS.out.m1 (by simp at hm; exact hm ▸ hk)), (HO5.out.mono (by intro k hk; simp [hk])).trans (hX6.mono (by simp))⟩
  · have h0 : is = [] := List.eq_nil_of_length_eq_zero (by omega)
    subst h0
    simp only [List.length_nil] at *
    have b2 := HM3.out.blk.cell 2 rfl
    have b3 := HM3.out.blk.cell 3 rfl
    have b4 := HM3.out.blk.cell 4 rfl
    have b5 := HM3.out.blk.cell 5 rfl
    have f2 := HM3.out.blk.free 2
    have f3 := HM3.out.blk.free 3
    have f4 := HM3.out.blk.free 4
    have f5 := HM3.out.blk.free 5
    have f6 := HM3.out.blk.free 6
    clear hn
    go_wp2_with fail
    go_ret
    have hb2 := (((((HM3.out.blk.set_same 2 (.int .i64 0)).set_same 3 (.int .i64 0)).set_same 4 (.bool false)).set_same 5 (.slice none 0 0)).set_same 6 (.slice none 0 0))
    have hX6 : Only [mb] w3 (((((w3.setCell ⟨mb, 2, none⟩ (.int .i64 0)).setCell ⟨mb, 3, none⟩ (.int .i64 0)).setCell ⟨mb, 4, none⟩ (.bool false)).setCell ⟨mb, 5, none⟩ (.slice none 0 0)).setCell ⟨mb, 6, none⟩ (.slice none 0 0)) := ((((Only.setCell _ (by simp) _).trans (Only.setCell _ (by simp) _)).trans (Only.setCell _ (by simp) _)).trans (Only.setCell _ (by simp) _)).trans (Only.setCell _ (by simp) _)
    refine ⟨rfl, by simpa using hb2, ?_, (HO3.out.mono (by simp)).trans (hX6.mono (by simp))⟩
    rw [backS_nil, List.length_nil, Int.natCast_zero, Int.add_zero]
    exact HT3.out.other hX6 (by simp; exact fun e => HS.out.m2 e.symm) (fun k hk hm => HS.out.m1 (by simp at hm; exact hm ▸ hk))

end Go.Proofs.Ytacegkjobfeiiaa

namespace Go.Proofs.Ytacegkjobfeiiaa
open Go.RowKit

theorem wf_cnt : ∀ {t : Tr}, t.wf → (t.cnt : Int) ≤ t.hi - t.lo + 1
  | .leaf _ k _, _ => by simp only [Tr.cnt, Tr.hi, Tr.lo]; omega
  | .node _ p f l r, h => by
    obtain ⟨_, _, _, _, hl, hr, a1, a2, a3, a4⟩ := h
    have h1 := wf_cnt hl
    have h2 := wf_cnt hr
    have := pw_succ p
    simp only [Tr.cnt, Tr.hi, Tr.lo]
    omega

theorem wf_cnt_le {t : Tr} (h : t.wf) : (t.cnt : Int) ≤ 4294967296 := by
  have h1 := wf_cnt h
  have h2 := Tr.wf_span h
  omega

/-- The way's steps stand at a block's head. -/
structure StepsAt (w : World) (S : Nat → Sl) (g : Nat) (W : List Stp) : Prop where
  lt : g < w.heap.size
  cells : ∀ (q : Nat) (s : Stp), W[q]? = some s → ∀ j u, (stepC S s)[j]? = some u → w.cell? ⟨g, q * 7 + j, none⟩ = some u

theorem StepsAt.only {w w' : World} {S : Nat → Sl} {g : Nat} {W : List Stp} {L : List Nat} (h : StepsAt w S g W) (o : Only L w w') (hn : g ∉ L) : StepsAt w' S g W :=
  ⟨Nat.lt_of_lt_of_le h.lt o.size, fun q s hs j u hu => (o.cell (p := ⟨g, q * 7 + j, none⟩) h.lt hn).trans (h.cells q s hs j u hu)⟩

/-- What stands in the midst of a way made anew: the steps from m on have been made. -/
structure UpAt (A : PA) (n : Nat) (S0 : Nat → Sl) (fs0 : List Nat) (t0 fa c : Int) (tb mb base g : Nat) (W : List Stp) (cur0 : Tr) (k : Nat) (old : Int) (had : Bool) (gone0 : List Int) (wS : World) (m : Nat) (S : Nat → Sl) (fs : List Nat) (t root : Int) (gv mv : Value) (wr : World) : Prop where
  me : MkAt wr mb tb base root old had gv mv (gone0 ++ hnds S0 (goneI (W.drop m))) (mds S0 (fs0.take (k + (W.length - m))))
  tr : TrAt wr tb A n S t fs fa
  mg : Mg S0 S fs0 fs t0 t (k + (W.length - m))
  rep : Rep n S (rebuild (W.drop m) cur0 (fs0.drop k)).1
  root : root = hnd S (rebuild (W.drop m) cur0 (fs0.drop k)).1
  wf : (rebuild (W.drop m) cur0 (fs0.drop k)).1.wf
  st : StepsAt wr S0 g W
  gg : gv.ownBlock ≠ some g
  gm : mv.ownBlock ≠ some g
  only : Only A.all wS wr

theorem UpAt.plain {A : PA} {n : Nat} {S0 : Nat → Sl} {fs0 : List Nat} {t0 fa c : Int} {tb mb base g : Nat} {W : List Stp} {cur0 : Tr} {k : Nat} {old : Int} {had : Bool} {gone0 : List Int} {wS : World} {m : Nat} {S : Nat → Sl} {fs : List Nat} {t root : Int} {gv mv : Value} {w w' : World}
    (h : UpAt A n S0 fs0 t0 fa c tb mb base g W cur0 k old had gone0 wS m S fs t root gv mv w) (o : Only [] w w') : UpAt A n S0 fs0 t0 fa c tb mb base g W cur0 k old had gone0 wS m S fs t root gv mv w' :=
  ⟨h.me.plain o, h.tr.plain o, h.mg, h.rep, h.root, h.wf, h.st.only o (by simp), h.gg, h.gm, h.only.trans (o.mono (by simp))⟩

/-- All steps have been made. -/
def UpOk (A : PA) (n : Nat) (S0 : Nat → Sl) (fs0 : List Nat) (t0 fa : Int) (tb mb base : Nat) (W : List Stp) (cur0 : Tr) (k : Nat) (old : Int) (had : Bool) (gone0 : List Int) (wS : World) (e : Ending) (w' : World) : Prop :=
  e = .returned (.int .i64 0) ∧ k + W.length ≤ fs0.length ∧ ∃ S t gv mv, MkAt w' mb tb base (hnd S (rebuild W cur0 (fs0.drop k)).1) old had gv mv (gone0 ++ hnds S0 (goneI W)) (mds S0 (fs0.take (k + W.length))) ∧ TrAt w' tb A n S t (fs0.drop (k + W.length)) fa ∧ Mg S0 S fs0 (fs0.drop (k + W.length)) t0 t (k + W.length) ∧ Rep n S (rebuild W cur0 (fs0.drop k)).1 ∧ (rebuild W cur0 (fs0.drop k)).1.wf ∧ Only A.all wS w'

/-- A place lacked: all has been given back. -/
def UpNo (A : PA) (n : Nat) (S0 : Nat → Sl) (fs0 : List Nat) (t0 fa : Int) (tb mb : Nat) (need : Nat) (wS : World) (e : Ending) (w' : World) : Prop :=
  e = .returned (.int .i64 102) ∧ fs0.length < need ∧ Blk w' mb #[.pointer (some ⟨tb, 0, none⟩), .pointer none, .int .i64 0, .int .i64 0, .bool false, .slice none 0 0, .slice none 0 0] 119 ∧ ∃ S t, TrAt w' tb A n S t fs0 fa ∧ Undone S0 S fs0 ∧ t = t0 + 2 * fs0.length ∧ Only A.all wS w'

def UpPost (A : PA) (n : Nat) (S0 : Nat → Sl) (fs0 : List Nat) (t0 fa : Int) (tb mb base : Nat) (W : List Stp) (cur0 : Tr) (k : Nat) (old : Int) (had : Bool) (gone0 : List Int) (wS : World) (e : Ending) (w' : World) : Prop :=
  UpOk A n S0 fs0 t0 fa tb mb base W cur0 k old had gone0 wS e w' ∨ UpNo A n S0 fs0 t0 fa tb mb (k + W.length) wS e w'

theorem mds_hnds {S0 S : Nat → Sl} {fs0 fs : List Nat} {t0 t : Int} {k : Nat} (h : Mg S0 S fs0 fs t0 t k) : mds S0 (fs0.take k) = hnds S (fs0.take k) := by
  unfold mds hnds
  refine List.map_congr_left fun i hi => ?_
  rw [h.gen i hi]

theorem mds_snoc {S0 S : Nat → Sl} {fs0 fs r : List Nat} {t0 t : Int} {k i : Nat} (h : Mg S0 S fs0 fs t0 t k) (e : fs = i :: r) : mds S0 (fs0.take k) ++ [wd i ((S0 i).gen + 1)] = mds S0 (fs0.take (k + 1)) := by
  obtain ⟨_, h2, _, _⟩ := h.cons e
  rw [h2]
  simp [mds]

theorem mds_length (S0 : Nat → Sl) (is : List Nat) : (mds S0 is).length = is.length := by simp [mds]
theorem hnds_length (S0 : Nat → Sl) (is : List Nat) : (hnds S0 is).length = is.length := by simp [hnds]

theorem getLast_drop {α : Type} : ∀ (W : List α) (q : Nat), q < W.length → (W.drop q).getLast? = W.getLast?
  | [], q, h => by simp at h
  | a :: W, 0, _ => rfl
  | a :: W, q + 1, h => by
    simp only [List.length_cons] at h
    rw [List.drop_succ_cons, getLast_drop W q (by omega)]
    cases W with
    | nil => simp at h
    | cons b W => rw [List.getLast?_cons_cons]

/-- One step more has been made. -/
theorem up_next {A : PA} {n : Nat} {S0 : Nat → Sl} {fs0 : List Nat} {t0 fa c : Int} {tb mb base g : Nat} {W : List Stp} {T0 nn cur0 : Tr} {k : Nat} {more old : Int} {had : Bool} {gone0 : List Int} {wS : World} {q : Nat} {S : Nat → Sl} {i : Nat} {r : List Nat} {t root lv rv : Int} {gv mv gv' mv' : Value} {w w' : World} {st : Stp}
    (h : UpAt A n S0 fs0 t0 fa c tb mb base g W cur0 k old had gone0 wS (q + 1) S (i :: r) t root gv mv w) (F : Fre n S0 fs0 c) (hc : c < 999998)
    (hW : Way T0 W nn) (hT0 : T0.wf) (RT : Rep n S0 T0) (hcur : cur0.wf) (hlast : ∀ s, W.getLast? = some s → s.lo ≤ cur0.lo ∧ cur0.hi ≤ s.hi) (hmore : (cur0.cnt : Int) = nn.cnt + more) (hst : W[q]? = some st)
    (hlv : (if st.right then hnd S0 st.l else root) = lv) (hrv : (if st.right then root else hnd S0 st.r) = rv)
    (hM : MkAt w' mb tb base (wd i ((S i).gen + 1)) old had gv' mv' ((gone0 ++ hnds S0 (goneI (W.drop (q + 1)))) ++ [hnd S0 st.whole]) (mds S0 (fs0.take (k + (W.length - (q + 1)))) ++ [wd i ((S i).gen + 1)]))
    (hT : TrAt w' tb A n (upS S i ⟨(S i).gen + 1, 0, 0, st.f * 64 + st.p + 1, lv, rv, (st.whole.cnt : Nat) + more⟩) (t + 1) r fa) (hs : StepsAt w' S0 g W) (gg : gv'.ownBlock ≠ some g) (gm : mv'.ownBlock ≠ some g) (hO : Only A.all wS w') :
    UpAt A n S0 fs0 t0 fa c tb mb base g W cur0 k old had gone0 wS q (upS S i ⟨(S i).gen + 1, 0, 0, st.f * 64 + st.p + 1, lv, rv, (st.whole.cnt : Nat) + more⟩) r (t + 1) (wd i ((S i).gen + 1)) gv' mv' w' := by
  have hql : q < W.length := (List.getElem?_eq_some_iff.1 hst).1
  obtain ⟨hd, hway, hmem⟩ := way_at hW hst
  have hwf := (way_wf hW hT0).2 st hmem
  have hsR := (way_rep hW RT).2 st hmem
  have G := h.mg
  have F1 := G.fre F
  have sp := F1.spare (by omega) (show i ∈ i :: r by simp)
  have hstep := G.step F rfl ⟨(S i).gen + 1, 0, 0, st.f * 64 + st.p + 1, lv, rv, (st.whole.cnt : Nat) + more⟩ rfl
  have hk : k + (W.length - (q + 1)) + 1 = k + (W.length - q) := by omega
  have hlen : (W.drop (q + 1)).length = W.length - (q + 1) := by simp
  have hfs : (rebuild (W.drop (q + 1)) cur0 (fs0.drop k)).2 = i :: r := by
    rw [rebuild_fs, List.drop_drop, hlen, ← G.rest]
  have hreb : (rebuild (W.drop q) cur0 (fs0.drop k)).1 = st.anew i (rebuild (W.drop (q + 1)) cur0 (fs0.drop k)).1 := by
    rw [hd]
    show st.anew ((rebuild (W.drop (q + 1)) cur0 (fs0.drop k)).2.headD 0) _ = _
    rw [hfs]; rfl
  have hcw : (rebuild (W.drop q) cur0 (fs0.drop k)).1.wf := by
    refine (rebuild_wf (w := W.drop q) (t := st.whole) (n := nn) ?_ hwf hcur ?_ _).1
    · rw [hd]; exact ⟨rfl, hway⟩
    · rw [getLast_drop W q hql]; exact hlast
  have hcnt : ((st.anew i (rebuild (W.drop (q + 1)) cur0 (fs0.drop k)).1).cnt : Int) = (st.whole.cnt : Nat) + more := by
    have h1 := anew_cnt st i (rebuild (W.drop (q + 1)) cur0 (fs0.drop k)).1
    have h2 := rebuild_cnt cur0 (fs0.drop k) hway
    omega
  have R := h.rep
  have hroot := h.root
  have hrep : Rep n (upS S i ⟨(S i).gen + 1, 0, 0, st.f * 64 + st.p + 1, lv, rv, (st.whole.cnt : Nat) + more⟩) (st.anew i (rebuild (W.drop (q + 1)) cur0 (fs0.drop k)).1) := by
    obtain ⟨_, _, _, _, _, RL, RR⟩ := hsR
    have kl := G.kept F RL
    have kr := G.kept F RR
    cases hr : st.right with
    | true =>
      rw [hr] at hlv hrv
      simp only [if_true] at hlv hrv
      unfold Stp.anew at hcnt ⊢
      rw [hr] at hcnt ⊢
      simp only [if_true] at hcnt ⊢
      have := rep_node sp kl.1 R st.p st.f ((st.whole.cnt : Nat) + more) hcnt.symm
      rw [kl.2, ← hroot, hlv, hrv] at this
      exact this
    | false =>
      rw [hr] at hlv hrv
      simp only [Bool.false_eq_true, if_false] at hlv hrv
      unfold Stp.anew at hcnt ⊢
      rw [hr] at hcnt ⊢
      simp only [Bool.false_eq_true, if_false] at hcnt ⊢
      have := rep_node sp R kr.1 st.p st.f ((st.whole.cnt : Nat) + more) hcnt.symm
      rw [kr.2, ← hroot, hlv, hrv] at this
      exact this
  refine ⟨?_, hT, ?_, ?_, ?_, hcw, hs, gg, gm, hO⟩
  · have e1 : gone0 ++ hnds S0 (goneI (W.drop q)) = (gone0 ++ hnds S0 (goneI (W.drop (q + 1)))) ++ [hnd S0 st.whole] := by
      rw [hd, goneI_cons]
      simp [hnds, hnd, Stp.whole, Tr.slot]
    have e2 := mds_snoc G rfl
    rw [hk] at e2
    rw [e1, ← e2]
    have e3 : (S i).gen = (S0 i).gen := hstep.2.1
    rw [e3] at hM ⊢
    exact hM
  · rw [← hk]; exact hstep.1
  · rw [hreb]; exact hrep
  · rw [hreb]
    unfold hnd
    have : (st.anew i (rebuild (W.drop (q + 1)) cur0 (fs0.drop k)).1).slot = i := by
      unfold Stp.anew
      cases st.right <;> rfl
    rw [this, upS_same]

/-- Where no place is left, what was made goes back. -/
theorem makes_undo {A : PA} {n : Nat} {S0 S : Nat → Sl} {fs0 : List Nat} {t0 t fa c : Int} {tb mb base : Nat} {a b c' d root old : Int} {had : Bool} {gv mv : Value} {gone : List Int} {k : Nat} {w : World} (T : TrAt w tb A n S t [] fa) (M : MkAt w mb tb base root old had gv mv gone (mds S0 (fs0.take k))) (s : Sit mb tb base A)
    (G : Mg S0 S fs0 [] t0 t k) (F : Fre n S0 fs0 c) (hc : c < 999999) (ht : t0 + 2 * fs0.length ≤ 1000000) (hb : base ≤ w.heap.size) (hn : n ≤ 4096) :
    Calls Try.prog 70 #[.pointer (some ⟨mb, 0, none⟩), .agg #[.int .i64 a, .int .i64 b, .int .i64 c', .int .i64 d]] w fun e w' => e = .returned (.int .i64 102) ∧ k = fs0.length ∧ Blk w' mb #[.pointer (some ⟨tb, 0, none⟩), .pointer none, .int .i64 0, .int .i64 0, .bool false, .slice none 0 0, .slice none 0 0] 119 ∧ (∃ S t, TrAt w' tb A n S t fs0 fa ∧ Undone S0 S fs0 ∧ t = t0 + 2 * fs0.length) ∧ Only (mb :: A.all) w w' := by
  obtain ⟨hU, hk, ha⟩ := G.undone F rfl
  have htk : fs0.take k = fs0 := by rw [hk]; exact List.take_length
  have hm := mds_hnds G
  rw [hm, htk] at M
  have htag := G.tag
  have hlen := nodup_length n fs0 F.nodup (fun x hx => ⟨(F.rng x hx).1, (F.rng x hx).2.1⟩)
  refine (makes_no (a := a) (b := b) (c := c') (d := d) T M s (fun i hi => by have := ha i hi; omega) F.nodup (by omega) (by omega) hb).mono ?_
  rintro e w' ⟨rfl, h1, h2, h3⟩
  exact ⟨rfl, hk, h1, ⟨_, _, h2, hU, by omega⟩, h3⟩

end Go.Proofs.Ytacegkjobfeiiaa

