/- Put in a map that holds nothing, or by no key, as a call. Conditions: the pool stands in memory as PoolAt says. · Drop in a map that holds nothing, or by no key; New, as calls. No condition. · Drop as a call, in a map that holds something. Conditions: the pool stands in memory as PoolAt says, the map in it as Rep says. -/
import Derived.Test.YtacegkjobfeiiaaCTrieQ
set_option linter.unusedVariables false
set_option linter.unusedSimpArgs false
set_option linter.unusedSectionVars false
set_option linter.unnecessarySimpa false
namespace Go.Proofs.Ytacegkjobfeiiaa
open Go.RowKit

/-- Another root is laid in. -/
theorem mst_root {A : PA} {n : Nat} {S0 : Nat → Sl} {fs0 : List Nat} {t0 fa : Int} {tb mb base : Nat} {old : Int} {had : Bool} {gone : List Int} {wS : World} {k : Nat} {S : Nat → Sl} {fs : List Nat} {t root : Int} {gv mv : Value} {w : World} (h : MSt A n S0 fs0 t0 fa tb mb base old had gone wS k S fs t root gv mv w) (s : Sit mb tb base A) (hmb : wS.heap.size ≤ mb) (r : Int) :
    MSt A n S0 fs0 t0 fa tb mb base old had gone wS k S fs t r gv mv (w.setCell ⟨mb, 2, none⟩ (.int .i64 r)) ∧ Only [mb] w (w.setCell ⟨mb, 2, none⟩ (.int .i64 r)) := by
  have o : Only [mb] w (w.setCell ⟨mb, 2, none⟩ (.int .i64 r)) := Only.setCell _ (by simp) _
  refine ⟨⟨⟨?_, ?_, ?_, h.me.apart, h.me.out⟩, h.tr.other o (by simp; exact fun e => s.m2 e.symm) (fun k hk hm => s.m1 (by simp at hm; exact hm ▸ hk)), h.mg, h.only.past o (fun b hb => by simp at hb; exact Or.inr (by omega))⟩, o⟩
  · have := h.me.blk.set_same 2 (.int .i64 r)
    simpa using this
  · exact ownsRow_only h.me.gown o (fun b hb => by simp; exact h.me.out b (Or.inl hb))
  · exact ownsRow_only h.me.mown o (fun b hb => by simp; exact h.me.out b (Or.inr hb))

/-- One handle more is gone. -/
theorem mst_gone {A : PA} {n : Nat} {S0 : Nat → Sl} {fs0 : List Nat} {t0 fa : Int} {tb mb base : Nat} {old : Int} {had : Bool} {gone : List Int} {wS : World} {k : Nat} {S : Nat → Sl} {fs : List Nat} {t root : Int} {gv mv : Value} {w w6 : World} {vh : Int} {gg capg : Nat} (h : MSt A n S0 fs0 t0 fa tb mb base old had gone wS k S fs t root gv mv w) (s : Sit mb tb base A) (hmb : wS.heap.size ≤ mb) (hbS : wS.heap.size ≤ base)
    (hown : w6.ownsRow base 3 1 (.slice (some ⟨gg, 0, none⟩) (gone.length + 1) capg) (gone.length + 1) (gone.map (Value.int .i64) ++ [.int .i64 vh])) (hgrow : ((w.alloc (.cells #[.int .i64 vh] 3)).drew).grownBy w6 gv.ownBlock) (hat : gv.ownBlock = some gg ∨ gg = w.heap.size + 1) :
    MSt A n S0 fs0 t0 fa tb mb base old had (gone ++ [vh]) wS k S fs t root (.slice (some ⟨gg, 0, none⟩) (gone.length + 1) capg) mv (w6.setCell ⟨mb, 5, none⟩ (.slice (some ⟨gg, 0, none⟩) (gone.length + 1) capg)) ∧ Only (mb :: gv.ownBlock.toList) w (w6.setCell ⟨mb, 5, none⟩ (.slice (some ⟨gg, 0, none⟩) (gone.length + 1) capg)) := by
  have o6 : Only gv.ownBlock.toList w w6 := ((Only.alloc _ w (.cells #[.int .i64 vh] 3)).trans (Only.drew _ _)).trans (Only.of_grown hgrow (by intro k hk; simp [hk]))
  have o7 : Only [mb] w6 (w6.setCell ⟨mb, 5, none⟩ (.slice (some ⟨gg, 0, none⟩) (gone.length + 1) capg)) := Only.setCell _ (by simp) _
  have hgb : ∀ b, b ∈ gv.ownBlock.toList → base ≤ b ∧ b < w.heap.size ∧ b ≠ mb := fun b hb => by
    have hb : gv.ownBlock = some b := by simpa using hb
    exact ⟨(h.me.gown.lt b hb).1, (h.me.gown.lt b hb).2, h.me.out b (Or.inl hb)⟩
  have hmw : mb < w.heap.size := h.me.blk.lt
  have hgm : gg ≠ mb := by
    rcases hat with e | e
    · exact (hgb gg (by simp [e])).2.2
    · omega
  have hap : mv.ownBlock ≠ some gg := by
    rcases hat with e | e
    · exact h.me.apart gg e
    · intro hm; have := (h.me.mown.lt gg hm).2; omega
  have hB6 := h.me.blk.only o6 (fun hm => (hgb mb hm).2.2 rfl)
  have htb : tb ∉ gv.ownBlock.toList := fun hm => by have := (hgb tb hm).1; have := s.t; omega
  have hAn : ∀ k, k ∈ A.all → k ∉ gv.ownBlock.toList := fun k hk hm => by have := (hgb k hm).1; have := s.a k hk; omega
  refine ⟨⟨⟨?_, ?_, ?_, ?_, ?_⟩, (h.tr.other o6 htb hAn).other o7 (by simp; exact fun e => s.m2 e.symm) (fun k hk hm => s.m1 (by simp at hm; exact hm ▸ hk)), h.mg, (h.only.past o6 (fun b hb => Or.inr (by have := (hgb b hb).1; omega))).past o7 (fun b hb => by simp at hb; exact Or.inr (by omega))⟩, (o6.mono (by intro b hb; exact List.mem_cons_of_mem _ hb)).trans (o7.mono (by simp))⟩
  · have := hB6.set_same 5 (.slice (some ⟨gg, 0, none⟩) (gone.length + 1) capg)
    simpa using this
  · have := ownsRow_only hown o7 (by intro b hb; simp [Value.ownBlock] at hb; subst hb; simpa using hgm)
    simpa using this
  · exact ownsRow_only (ownsRow_only h.me.mown o6 (fun b hb hm => h.me.apart b (by simpa using hm) hb)) o7 (fun b hb => by simp; exact h.me.out b (Or.inr hb))
  · intro b hb hm; simp [Value.ownBlock] at hb; subst hb; exact hap hm
  · rintro b (hb | hb)
    · simp [Value.ownBlock] at hb; subst hb; exact hgm
    · exact h.me.out b (Or.inr hb)

set_option maxRecDepth 100000 in
set_option maxHeartbeats 4000000 in
theorem put_bad {tb : Nat} {r k v : Int} {w : World} (hk : ¬ (0 ≤ k ∧ k ≤ 4294967295)) :
    Calls Try.prog 20 #[.pointer (some ⟨tb, 0, none⟩), .pointer none, .int .i64 r, .int .i64 k, .int .i64 v] w (EdErr 120 w) := by
  have hez := edit_zero
  have hka : isK k = false := by simp [isK]; omega
  have HKEY := Lib.hid (fun w => trie_key k w)
  rw [hka] at HKEY
  clear hka hk
  go_enter Try.func20, Try.ntmps20
  go_wp2_with fail
  refine (HKEY.out _).mono ?_
  rintro e w1 ⟨rfl, rfl⟩
  go_wp2_with fail
  refine calls_name (fun w1 => Blk w1 w.heap.size #[.int .i64 0, .int .i64 0, .bool false, .slice none 0 0, .slice none 0 0] 38 ∧ Only [] w w1) ⟨Blk.new _ _ _, Only.alloc _ _ _⟩ ?_
  rintro w1 ⟨hB, hO⟩
  refine (trie_none 120 _).mono ?_
  rintro e w2 ⟨rfl, rfl⟩
  generalize hrb : w.heap.size = rb at *
  have HRB := Lib.hid hrb
  have r0 := hB.cell 0 rfl
  have r1 := hB.cell 1 rfl
  have r2 := hB.cell 2 rfl
  have r3 := hB.cell 3 rfl
  have r4 := hB.cell 4 rfl
  have q0 := hB.free 0
  have q1 := hB.free 1
  have q2 := hB.free 2
  have q3 := hB.free 3
  have q4 := hB.free 4
  have HB := Lib.hid hB
  have HO := Lib.hid hO
  clear hB hO hrb
  go_wp2_with fail
  have h5 := HB.out.fill5 (.int .i64 0) (.int .i64 0) (.bool false) (.slice none 0 0) (.slice none 0 0)
  generalize (((((w1.setCell ⟨rb, 0, none⟩ (.int .i64 0)).setCell ⟨rb, 1, none⟩ (.int .i64 0)).setCell ⟨rb, 2, none⟩ (.bool false)).setCell ⟨rb, 3, none⟩ (.slice none 0 0)).setCell ⟨rb, 4, none⟩ (.slice none 0 0)) = w8 at h5 ⊢
  obtain ⟨h5, o5⟩ := h5
  have e0 := h5.cell 0 rfl
  have e1 := h5.cell 1 rfl
  have e2 := h5.cell 2 rfl
  have e3 := h5.cell 3 rfl
  have e4 := h5.cell 4 rfl
  refine bodyPost_ret (v := .tuple #[.agg #[.int .i64 0, .int .i64 0, .bool false, .slice none 0 0, .slice none 0 0], .int .i64 120]) (by simp [results, Try.results20, go_sem, e0, e1, e2, e3, e4]) rfl ⟨rfl, ?_⟩
  exact HO.out.past o5 (fun b hb => by simp at hb; right; have := HRB.out; omega)

set_option maxRecDepth 100000 in
set_option maxHeartbeats 4000000 in
theorem put_none_x {A : PA} {n : Nat} {S0 : Nat → Sl} {fs0 : List Nat} {t0 fa c0 : Int} {tb : Nat} {k v : Int} {w : World} (T : TrAt w tb A n S0 t0 fs0 fa) (F : Fre n S0 fs0 c0) (hc : c0 < 999998) (ht : t0 + 2 * fs0.length ≤ 1000000) (hk : 0 ≤ k ∧ k ≤ 4294967295) :
    Calls Try.prog 20 #[.pointer (some ⟨tb, 0, none⟩), .pointer none, .int .i64 0, .int .i64 k, .int .i64 v] w fun e w' => EdOkX (fun oy m gs => ∃ j r, fs0 = j :: r ∧ oy = some (.leaf j k v) ∧ m = 1 ∧ gs = []) A n S0 fs0 t0 fa tb none 0 false [(k, v)] w e w' ∨ EdNoX 1 A n S0 fs0 t0 fa tb w e w' := by
  have hez := edit_zero
  have hka : isK k = true := by simp [isK]; exact hk
  have HKEY := Lib.hid (fun w => trie_key k w)
  rw [hka] at HKEY
  have HT := Lib.hid T
  have HF := Lib.hid F
  have HC := Lib.hid hc
  have HTT := Lib.hid ht
  have HKK := Lib.hid hk
  have hnn := T.pool.many.2
  have HLT := Lib.hid T.lt
  have HNN := Lib.hid hnn
  clear T F hc ht hka hk hnn
  go_enter Try.func20, Try.ntmps20
  go_wp2_with fail
  refine (HKEY.out _).mono ?_
  rintro e w1 ⟨rfl, rfl⟩
  go_wp2_with fail
  obtain ⟨wA, hwA⟩ : ∃ wA, w.alloc (.cells #[.int .i64 0, .int .i64 0, .bool false, .slice none 0 0, .slice none 0 0] 38) = wA := ⟨_, rfl⟩
  have HWA : Hid (wA.heap.size = w.heap.size + 1 ∧ Only [] w wA ∧ Blk wA w.heap.size #[.int .i64 0, .int .i64 0, .bool false, .slice none 0 0, .slice none 0 0] 38) := by
    subst hwA
    exact Lib.hid ⟨by simp, Only.alloc _ _ _, Blk.new _ _ _⟩
  rw [hwA]
  refine calls_name (fun w1 => TrAt w1 tb A n S0 t0 fs0 fa ∧ Blk w1 (w.heap.size + 1) #[.pointer (some ⟨tb, 0, none⟩), .pointer none, .int .i64 0, .int .i64 0, .bool false, .slice none 0 0, .slice none 0 0] 119 ∧ Only [] wA w1) ⟨HT.out.plain (HWA.out.2.1.trans (Only.alloc [] _ _)), ?_, Only.alloc [] _ _⟩ ?_
  · have := Blk.new wA #[.pointer (some ⟨tb, 0, none⟩), .pointer none, .int .i64 0, .int .i64 0, .bool false, .slice none 0 0, .slice none 0 0] 119
    rw [HWA.out.1] at this
    exact this
  clear hwA
  rintro w3 ⟨hT1, hM1, hO1⟩
  obtain ⟨rb, hrb⟩ : ∃ rb, w.heap.size = rb := ⟨_, rfl⟩
  have HRB := Lib.hid hrb
  rw [hrb] at hM1 HWA ⊢
  clear hrb
  have HAL : Hid (∀ k, k ∈ A.all → k < rb) := Lib.hid (fun k hk => by have := HLT.out.2 k hk; have := HRB.out; omega)
  have HSIT : Hid (Sit (rb + 1) tb (rb + 1) A) := by
    obtain ⟨h1, h2⟩ := HLT.out
    have h3 := HRB.out
    exact Lib.hid ⟨fun hm => by have := h2 _ hm; omega, by omega, fun k hk => by have := h2 k hk; omega, by omega, hT1.off⟩
  have HE : Hid (Ed A n S0 fs0 t0 c0 tb (rb + 1) (rb + 1) wA) := Lib.hid ⟨HSIT.out, HF.out, HC.out, HTT.out, HNN.out, Nat.le_refl _, HWA.out.1.symm⟩
  have hms : Hid (MSt A n S0 fs0 t0 fa tb (rb + 1) (rb + 1) 0 false [] wA 0 S0 fs0 t0 0 (.slice none 0 0) (.slice none 0 0) w3) := Lib.hid ⟨⟨hM1, World.ownsRow_nil _ _ _ _, by simpa [mds] using World.ownsRow_nil w3 (rb + 1) 3 1, fun b hb => by simp [Value.ownBlock] at hb, fun b hb => by simp [Value.ownBlock] at hb⟩, hT1, Mg.zero _ _ _, hO1.mono (by simp)⟩
  have HLF := Lib.hid (mst_leaf (x := k) (v := v) hms.out HE.out)
  clear hT1 hM1 hO1
  refine HLF.out.mono ?_
  rintro e w7 ⟨_, _, ⟨rfl, j0, r, mv2, hfs, hM6, _, _⟩ | hno⟩
  · have HFS := Lib.hid hfs
    have hM7 := hM6.me
    have hO7 := hM6.only
    obtain ⟨ma, mc, rfl⟩ := own_slice hM7.mown
    have hR7 := HWA.out.2.2.only hO7 (fun hm => by have := HAL.out _ hm; omega)
    have hB7 := hM7.blk
    have m2 := hB7.cell 2 rfl
    have m3 := hB7.cell 3 rfl
    have m4 := hB7.cell 4 rfl
    have m5 := hB7.cell 5 rfl
    have m6 := hB7.cell 6 rfl
    have r0 := hR7.cell 0 rfl
    have r1 := hR7.cell 1 rfl
    have r2 := hR7.cell 2 rfl
    have r3 := hR7.cell 3 rfl
    have r4 := hR7.cell 4 rfl
    have q0 := hR7.free 0
    have q1 := hR7.free 1
    have q2 := hR7.free 2
    have q3 := hR7.free 3
    have q4 := hR7.free 4
    have HR7 := Lib.hid hR7
    have HM6 := Lib.hid hM6
    have hmn : (mds S0 (fs0.take (0 + 1))).length = 1 := by rw [mds_length, List.length_take, hfs]; simp
    rw [hmn] at m6
    have HMN := Lib.hid hmn
    obtain ⟨yr, hyr⟩ : ∃ yr, wd (j0 : Int) ((S0 j0).gen + 1) = yr := ⟨_, rfl⟩
    rw [hyr] at m2
    have HYR := Lib.hid hyr
    clear hR7 hB7 hM7 hO7 hmn hyr hM6 hfs
    go_wp2_with fail
    have h5 := HR7.out.fill5 (.int .i64 yr) (.int .i64 0) (.bool false) (.slice none 0 0) (.slice ma 1 mc)
    generalize (((((w7.setCell ⟨rb, 0, none⟩ (.int .i64 yr)).setCell ⟨rb, 1, none⟩ (.int .i64 0)).setCell ⟨rb, 2, none⟩ (.bool false)).setCell ⟨rb, 3, none⟩ (.slice none 0 0)).setCell ⟨rb, 4, none⟩ (.slice ma 1 mc)) = w8 at h5 ⊢
    obtain ⟨h5, o5⟩ := h5
    have e0 := h5.cell 0 rfl
    have e1 := h5.cell 1 rfl
    have e2 := h5.cell 2 rfl
    have e3 := h5.cell 3 rfl
    have e4 := h5.cell 4 rfl
    have hhc := HC.out
    have hspare := HF.out.spare (by omega) (show j0 ∈ fs0 by rw [HFS.out]; simp)
    have hrest := HM6.out.mg.rest
    have hroot : hnd (upS S0 j0 ⟨(S0 j0).gen + 1, 0, 0, 0, k, v, 1⟩) (.leaf j0 k v) = yr := by
      unfold hnd
      show wd j0 ((upS S0 j0 _) j0).gen = yr
      rw [upS_same]; exact HYR.out
    have hmb : ∀ b, (Value.slice ma (mds S0 (fs0.take (0 + 1))).length mc).ownBlock = some b → b ∉ [rb] := fun b hb hm => by
      have := (HM6.out.me.mown.lt b hb).1
      simp at hm; omega
    refine bodyPost_ret (v := .tuple #[.agg #[.int .i64 yr, .int .i64 0, .bool false, .slice none 0 0, .slice ma 1 mc], .int .i64 0]) (by simp [results, Try.results20, go_sem, e0, e1, e2, e3, e4]) rfl (Or.inl ⟨some (.leaf j0 k v), upS S0 j0 ⟨(S0 j0).gen + 1, 0, 0, 0, k, v, 1⟩, t0 + 1, 1, [], [], .slice none 0 0, .slice ma 1 mc, ?_, ⟨rep_leaf hspare k v, HKK.out⟩, rfl, ?_, ?_, World.ownsRow_nil _ _ _ _, ?_, by simp [slotsO], ?_, by simp, by omega, ?_, j0, r, HFS.out, rfl, rfl, rfl⟩)
    · rw [show rootOf _ (some (Tr.leaf j0 k v)) = yr from hroot]
    · have := HM6.out.mg; rw [hrest] at this; exact this
    · have := HM6.out.tr.other o5 (fun hm => by simp at hm; have := HLT.out.1; have := HRB.out; omega) (fun k hk hm => by simp at hm; subst hm; have := HAL.out _ hk; omega)
      rw [hrest] at this
      exact this
    · have := (ownsRow_only HM6.out.me.mown o5 hmb).mono (show w.heap.size ≤ rb + 1 by have := HRB.out; omega)
      rw [HMN.out] at this
      exact this
    · rw [HFS.out]; simp [slotsO, Tr.slots]
    · exact ((HWA.out.2.1.mono (by simp) : Only A.all w wA).trans HM6.out.only).past o5 (fun b hb => by simp at hb; right; have := HRB.out; omega)
  · have he := hno.1
    subst he
    have HNEED : Hid (fs0.length < 1) := Lib.hid (by have h1 := hno.2.1; omega)
    obtain ⟨_, _, hB7, S2, t2, hT7, hU7, ht7, hO7⟩ := hno
    have hR7 := HWA.out.2.2.only hO7 (fun hm => by have := HAL.out _ hm; omega)
    have m2 := hB7.cell 2 rfl
    have m3 := hB7.cell 3 rfl
    have m4 := hB7.cell 4 rfl
    have m5 := hB7.cell 5 rfl
    have m6 := hB7.cell 6 rfl
    have r0 := hR7.cell 0 rfl
    have r1 := hR7.cell 1 rfl
    have r2 := hR7.cell 2 rfl
    have r3 := hR7.cell 3 rfl
    have r4 := hR7.cell 4 rfl
    have q0 := hR7.free 0
    have q1 := hR7.free 1
    have q2 := hR7.free 2
    have q3 := hR7.free 3
    have q4 := hR7.free 4
    have HR7 := Lib.hid hR7
    have HT7 := Lib.hid hT7
    have HU7 := Lib.hid hU7
    have Ht7 := Lib.hid ht7
    have HO7 := Lib.hid hO7
    clear hR7 hT7 hU7 ht7 hO7 hB7
    go_wp2_with fail
    have h5 := HR7.out.fill5 (.int .i64 0) (.int .i64 0) (.bool false) (.slice none 0 0) (.slice none 0 0)
    generalize (((((w7.setCell ⟨rb, 0, none⟩ (.int .i64 0)).setCell ⟨rb, 1, none⟩ (.int .i64 0)).setCell ⟨rb, 2, none⟩ (.bool false)).setCell ⟨rb, 3, none⟩ (.slice none 0 0)).setCell ⟨rb, 4, none⟩ (.slice none 0 0)) = w8 at h5 ⊢
    obtain ⟨h5, o5⟩ := h5
    have e0 := h5.cell 0 rfl
    have e1 := h5.cell 1 rfl
    have e2 := h5.cell 2 rfl
    have e3 := h5.cell 3 rfl
    have e4 := h5.cell 4 rfl
    refine bodyPost_ret (v := .tuple #[.agg #[.int .i64 0, .int .i64 0, .bool false, .slice none 0 0, .slice none 0 0], .int .i64 102]) (by simp [results, Try.results20, go_sem, e0, e1, e2, e3, e4]) rfl (Or.inr ⟨HNEED.out, rfl, S2, t2, ?_, HU7.out, Ht7.out, ?_⟩)
    · exact HT7.out.other o5 (fun hm => by simp at hm; have := HLT.out.1; have := HRB.out; omega) (fun k hk hm => by simp at hm; subst hm; have := HAL.out _ hk; omega)
    · exact ((HWA.out.2.1.mono (by simp) : Only A.all w wA).trans HO7.out).past o5 (fun b hb => by simp at hb; right; have := HRB.out; omega)

theorem put_none {A : PA} {n : Nat} {S0 : Nat → Sl} {fs0 : List Nat} {t0 fa c0 : Int} {tb : Nat} {k v : Int} {w : World} (T : TrAt w tb A n S0 t0 fs0 fa) (F : Fre n S0 fs0 c0) (hc : c0 < 999998) (ht : t0 + 2 * fs0.length ≤ 1000000) (hk : 0 ≤ k ∧ k ≤ 4294967295) :
    Calls Try.prog 20 #[.pointer (some ⟨tb, 0, none⟩), .pointer none, .int .i64 0, .int .i64 k, .int .i64 v] w fun e w' => EdOk A n S0 fs0 t0 fa tb none 0 false [(k, v)] w e w' ∨ EdNo A n S0 fs0 t0 fa tb w e w' :=
  (put_none_x T F hc ht hk).mono fun _ _ h => h.imp (fun h => h.ok) (fun h => h.2)

end Go.Proofs.Ytacegkjobfeiiaa

namespace Go.Proofs.Ytacegkjobfeiiaa
open Go.RowKit

set_option maxRecDepth 100000 in
set_option maxHeartbeats 4000000 in
theorem drop_bad {tb : Nat} {r k : Int} {w : World} (hk : ¬ (0 ≤ k ∧ k ≤ 4294967295)) :
    Calls Try.prog 22 #[.pointer (some ⟨tb, 0, none⟩), .pointer none, .int .i64 r, .int .i64 k] w (EdErr 120 w) := by
  have hez := edit_zero
  have hka : isK k = false := by simp [isK]; omega
  have HKEY := Lib.hid (fun w => trie_key k w)
  rw [hka] at HKEY
  clear hka hk
  go_enter Try.func22, Try.ntmps22
  go_wp2_with fail
  refine (HKEY.out _).mono ?_
  rintro e w1 ⟨rfl, rfl⟩
  go_wp2_with fail
  refine calls_name (fun w1 => Blk w1 w.heap.size #[.int .i64 0, .int .i64 0, .bool false, .slice none 0 0, .slice none 0 0] 38 ∧ Only [] w w1) ⟨Blk.new _ _ _, Only.alloc _ _ _⟩ ?_
  rintro w1 ⟨hB, hO⟩
  refine (trie_none 120 _).mono ?_
  rintro e w2 ⟨rfl, rfl⟩
  generalize hrb : w.heap.size = rb at *
  have HRB := Lib.hid hrb
  have r0 := hB.cell 0 rfl
  have r1 := hB.cell 1 rfl
  have r2 := hB.cell 2 rfl
  have r3 := hB.cell 3 rfl
  have r4 := hB.cell 4 rfl
  have q0 := hB.free 0
  have q1 := hB.free 1
  have q2 := hB.free 2
  have q3 := hB.free 3
  have q4 := hB.free 4
  have HB := Lib.hid hB
  have HO := Lib.hid hO
  clear hB hO hrb
  go_wp2_with fail
  have h5 := HB.out.fill5 (.int .i64 0) (.int .i64 0) (.bool false) (.slice none 0 0) (.slice none 0 0)
  generalize (((((w1.setCell ⟨rb, 0, none⟩ (.int .i64 0)).setCell ⟨rb, 1, none⟩ (.int .i64 0)).setCell ⟨rb, 2, none⟩ (.bool false)).setCell ⟨rb, 3, none⟩ (.slice none 0 0)).setCell ⟨rb, 4, none⟩ (.slice none 0 0)) = w8 at h5 ⊢
  obtain ⟨h5, o5⟩ := h5
  have e0 := h5.cell 0 rfl
  have e1 := h5.cell 1 rfl
  have e2 := h5.cell 2 rfl
  have e3 := h5.cell 3 rfl
  have e4 := h5.cell 4 rfl
  refine bodyPost_ret (v := .tuple #[.agg #[.int .i64 0, .int .i64 0, .bool false, .slice none 0 0, .slice none 0 0], .int .i64 120]) (by simp [results, Try.results22, go_sem, e0, e1, e2, e3, e4]) rfl ⟨rfl, ?_⟩
  exact HO.out.past o5 (fun b hb => by simp at hb; right; have := HRB.out; omega)

set_option maxRecDepth 100000 in
set_option maxHeartbeats 4000000 in
theorem drop_none {tb : Nat} {k : Int} {w : World} (hk : 0 ≤ k ∧ k ≤ 4294967295) :
    Calls Try.prog 22 #[.pointer (some ⟨tb, 0, none⟩), .pointer none, .int .i64 0, .int .i64 k] w (EdErr 122 w) := by
  have hez := edit_zero
  have hka : isK k = true := by simp [isK]; exact hk
  have HKEY := Lib.hid (fun w => trie_key k w)
  rw [hka] at HKEY
  clear hka hk
  go_enter Try.func22, Try.ntmps22
  go_wp2_with fail
  refine (HKEY.out _).mono ?_
  rintro e w1 ⟨rfl, rfl⟩
  go_wp2_with fail
  refine calls_name (fun w1 => Blk w1 w.heap.size #[.int .i64 0, .int .i64 0, .bool false, .slice none 0 0, .slice none 0 0] 38 ∧ Only [] w w1) ⟨Blk.new _ _ _, Only.alloc _ _ _⟩ ?_
  rintro w1 ⟨hB, hO⟩
  refine (trie_none 122 _).mono ?_
  rintro e w2 ⟨rfl, rfl⟩
  generalize hrb : w.heap.size = rb at *
  have HRB := Lib.hid hrb
  have r0 := hB.cell 0 rfl
  have r1 := hB.cell 1 rfl
  have r2 := hB.cell 2 rfl
  have r3 := hB.cell 3 rfl
  have r4 := hB.cell 4 rfl
  have q0 := hB.free 0
  have q1 := hB.free 1
  have q2 := hB.free 2
  have q3 := hB.free 3
  have q4 := hB.free 4
  have HB := Lib.hid hB
  have HO := Lib.hid hO
  clear hB hO hrb
  go_wp2_with fail
  have h5 := HB.out.fill5 (.int .i64 0) (.int .i64 0) (.bool false) (.slice none 0 0) (.slice none 0 0)
  generalize (((((w1.setCell ⟨rb, 0, none⟩ (.int .i64 0)).setCell ⟨rb, 1, none⟩ (.int .i64 0)).setCell ⟨rb, 2, none⟩ (.bool false)).setCell ⟨rb, 3, none⟩ (.slice none 0 0)).setCell ⟨rb, 4, none⟩ (.slice none 0 0)) = w8 at h5 ⊢
  obtain ⟨h5, o5⟩ := h5
  have e0 := h5.cell 0 rfl
  have e1 := h5.cell 1 rfl
  have e2 := h5.cell 2 rfl
  have e3 := h5.cell 3 rfl
  have e4 := h5.cell 4 rfl
  refine bodyPost_ret (v := .tuple #[.agg #[.int .i64 0, .int .i64 0, .bool false, .slice none 0 0, .slice none 0 0], .int .i64 122]) (by simp [results, Try.results22, go_sem, e0, e1, e2, e3, e4]) rfl ⟨rfl, ?_⟩
  exact HO.out.past o5 (fun b hb => by simp at hb; right; have := HRB.out; omega)

theorem trie_new {A : PA} {n : Nat} {S : Nat → Sl} {t : Int} {fs : List Nat} {fa : Int} {w : World} (H : PoolAt w A n S t fs fa) :
    Calls Try.prog 9 #[.pointer (some ⟨A.p, 0, none⟩)] w fun e w' => e = .returned (.pointer (some ⟨w.heap.size, 0, none⟩)) ∧ TrAt w' w.heap.size A n S t fs fa ∧ Only [] w w' := by
  have HH := Lib.hid H
  clear H
  go_enter Try.func9, Try.ntmps9
  go_wp2_with fail
  go_ret
  exact ⟨rfl, ⟨Blk.new _ _ _, HH.out.only (Only.alloc [] _ _) (by simp), fun hm => by have := HH.out.lt _ hm; omega⟩, Only.alloc _ _ _⟩

end Go.Proofs.Ytacegkjobfeiiaa

namespace Go.Proofs.Ytacegkjobfeiiaa
open Go.RowKit

set_option maxRecDepth 100000 in
set_option maxHeartbeats 4000000 in
theorem drop_miss {A : PA} {n : Nat} {S0 : Nat → Sl} {fs0 : List Nat} {t0 fa c0 : Int} {tb : Nat} {x : Tr} {k : Int} {w : World} (T : TrAt w tb A n S0 t0 fs0 fa) (F : Fre n S0 fs0 c0) (hc : c0 < 999998) (ht : t0 + 2 * fs0.length ≤ 1000000) (R : Rep n S0 x) (wf : x.wf) (hk : 0 ≤ k ∧ k ≤ 4294967295) (hmiss : ∀ i v, (down x k).2 ≠ .leaf i k v) :
    Calls Try.prog 22 #[.pointer (some ⟨tb, 0, none⟩), .pointer none, .int .i64 (hnd S0 x), .int .i64 k] w (EdErr 122 w) := by
  have hez := edit_zero
  have HMISS := Lib.hid hmiss
  clear hmiss
  have hka : isK k = true := by simp [isK]; exact hk
  have HKEY := Lib.hid (fun w => trie_key k w)
  rw [hka] at HKEY
  have hx0 : (hnd S0 x == 0) = false := by have := hnd_pos R; simp; omega
  have HDN := Lib.hid (fun w T => trie_down (w := w) (A := A) (n := n) (S := S0) (t := t0) (fs := fs0) (fa := fa) (tb := tb) (k := k) T R wf)
  have HT := Lib.hid T
  have HF := Lib.hid F
  have HC := Lib.hid hc
  have HTT := Lib.hid ht
  have HR := Lib.hid R
  have HWF := Lib.hid wf
  have HKK := Lib.hid hk
  have hnn := T.pool.many.2
  have HLT := Lib.hid T.lt
  have HNN := Lib.hid hnn
  clear T F hc ht R wf hka hk hnn
  generalize hhx : hnd S0 x = hx at *
  have HHX := Lib.hid hhx
  clear hhx
  go_enter Try.func22, Try.ntmps22
  go_wp2_with fail
  refine (HKEY.out _).mono ?_
  rintro e w1 ⟨rfl, rfl⟩
  go_wp2_with fail
  obtain ⟨wA, hwA⟩ : ∃ wA, w.alloc (.cells #[.int .i64 0, .int .i64 0, .bool false, .slice none 0 0, .slice none 0 0] 38) = wA := ⟨_, rfl⟩
  have HWA : Hid (wA.heap.size = w.heap.size + 1 ∧ Only [] w wA ∧ Blk wA w.heap.size #[.int .i64 0, .int .i64 0, .bool false, .slice none 0 0, .slice none 0 0] 38) := by
    subst hwA
    exact Lib.hid ⟨by simp, Only.alloc _ _ _, Blk.new _ _ _⟩
  rw [hwA]
  refine calls_name (fun w1 => TrAt w1 tb A n S0 t0 fs0 fa ∧ Blk w1 w.heap.size #[.int .i64 0, .int .i64 0, .bool false, .slice none 0 0, .slice none 0 0] 38 ∧ Only [] wA w1) ⟨HT.out.plain HWA.out.2.1, HWA.out.2.2, Only.refl _ _⟩ ?_
  clear hwA
  rintro w1 ⟨hT1, hR1, hO1⟩
  obtain ⟨rb, hrb⟩ : ∃ rb, w.heap.size = rb := ⟨_, rfl⟩
  have HRB := Lib.hid hrb
  rw [hrb] at hR1 HWA ⊢
  clear hrb
  have hm1s : rb < w1.heap.size := hR1.lt
  have HR1 := Lib.hid hR1
  have HO1 := Lib.hid hO1
  clear hR1 hO1
  refine (HDN.out w1 hT1).mono ?_
  rintro e w2 ⟨way, rfl, hown, hX2⟩
  obtain ⟨ad, cap, rfl, hcap, hway⟩ := own_steps hown
  have hway2 : ∃ g, rb ≤ g ∧ WayOk w2 S0 ad g (down x k).1 := by
    rcases hway with ⟨h1, h2⟩ | ⟨g, h1, h2, h3⟩
    · exact ⟨rb, Nat.le_refl _, ⟨Nat.lt_of_lt_of_le (by omega) hX2.size, Or.inl h1⟩⟩
    · exact ⟨g, by omega, ⟨h3.lt, Or.inr ⟨h1, h3⟩⟩⟩
  obtain ⟨g, hg1, hg3⟩ := hway2
  have HG3 := Lib.hid hg3
  have HT2 := Lib.hid (hT1.plain hX2)
  have HR2 := Lib.hid (HR1.out.only hX2 (by simp))
  have HO2 := Lib.hid (HO1.out.trans hX2)
  have HM2S : Hid (rb < w2.heap.size) := Lib.hid (Nat.lt_of_lt_of_le hm1s hX2.size)
  clear hT1 hown hX2 hway hg3 HR1 HO1 hm1s HDN
  obtain ⟨W, hW⟩ : ∃ W, (down x k).1 = W := ⟨_, rfl⟩
  obtain ⟨nn, hnn⟩ : ∃ nn, (down x k).2 = nn := ⟨_, rfl⟩
  have HW := Lib.hid hW
  have HN := Lib.hid hnn
  obtain ⟨ty, sv, hsv⟩ := shV_one S0 nn
  have HSV := Lib.hid hsv
  rw [hW] at HG3 ⊢
  rw [hnn, ndV_agg, hsv]
  have hWl : W.length ≤ 32 := by
    have h1 := down_len x k HWF.out
    have h2 := rk_le HWF.out
    rw [hW] at h1
    omega
  rw [hW] at hcap
  have HCAP := Lib.hid hcap
  clear hW hnn hsv hcap
  generalize hhn : hnd S0 nn = hn at *
  have HHN := Lib.hid hhn
  clear hhn
  obtain ⟨a0, v0, ok, hta, hok1, hok2⟩ := assertL_any S0 nn
  have hta := hta ty sv HSV.out
  have HOK1 := Lib.hid hok1
  have HOK2 := Lib.hid hok2
  clear hok1 hok2
  go_upto_region 9 with fail
  obtain ⟨nb, hnb⟩ : ∃ nb, w2.heap.size = nb := ⟨_, rfl⟩
  have HNB := Lib.hid hnb
  refine wp_name (fun w3 => TrAt w3 tb A n S0 t0 fs0 fa ∧ Blk w3 rb #[.int .i64 0, .int .i64 0, .bool false, .slice none 0 0, .slice none 0 0] 38 ∧ Blk w3 nb #[.int .i64 hn, .iface ty sv] 125 ∧ Blk w3 (nb + 1) #[.int .i64 a0, .int .i64 v0] 129 ∧ WayOk w3 S0 ad g W ∧ Only [] wA w3) ?_ ?_
  · have o2 : ∀ o1 o2, Only [] w2 ((w2.alloc o1).alloc o2) := fun o1 o2 => (Only.alloc [] _ o1).trans (Only.alloc [] _ o2)
    refine ⟨HT2.out.plain (o2 _ _), HR2.out.only (o2 _ _) (by simp), ?_, ?_, HG3.out.only (o2 _ _) (by simp), HO2.out.trans (o2 _ _)⟩
    · have := (Blk.new w2 #[.int .i64 hn, .iface ty sv] 125).alloc (.cells #[.int .i64 a0, .int .i64 v0] 129)
      rw [hnb] at this
      exact this
    · have := Blk.new (w2.alloc (.cells #[.int .i64 hn, .iface ty sv] 125)) #[.int .i64 a0, .int .i64 v0] 129
      have e : (w2.alloc (.cells #[.int .i64 hn, .iface ty sv] 125)).heap.size = nb + 1 := by rw [← hnb]; simp
      rw [e] at this
      exact this
  have hnbl : rb < nb ∧ g < nb := by
    rw [← hnb]
    exact ⟨HM2S.out, HG3.out.1⟩
  rw [hnb]
  clear hnb hta HT2 HR2 HG3 HO2 HM2S
  obtain ⟨hnb1, hnb2⟩ := hnbl
  rintro w3 ⟨hT3, hR3, hN3, hL3, hG3, hO3⟩
  have HT3 := Lib.hid hT3
  have HR3 := Lib.hid hR3
  have HN3 := Lib.hid hN3
  have HL3 := Lib.hid hL3
  have HG3 := Lib.hid hG3
  have HO3 := Lib.hid hO3
  have l0 := hL3.cell 0 rfl
  have l1 := hL3.cell 1 rfl
  clear hT3 hR3 hN3 hL3 hG3 hO3
  have hmiss : ok = false ∨ (a0 == k) = false := by
    have h1 := HOK1.out
    have h2 := HMISS.out
    rw [HN.out] at h2
    cases ok with
    | false => exact Or.inl rfl
    | true =>
      obtain ⟨i, hi⟩ := h1 rfl
      right
      simp only [beq_eq_false_iff_ne, ne_eq]
      intro e
      subst e
      exact h2 i v0 hi
  have r0 := HR3.out.cell 0 rfl
  have r1 := HR3.out.cell 1 rfl
  have r2 := HR3.out.cell 2 rfl
  have r3 := HR3.out.cell 3 rfl
  have r4 := HR3.out.cell 4 rfl
  have q0 := HR3.out.free 0
  have q1 := HR3.out.free 1
  have q2 := HR3.out.free 2
  have q3 := HR3.out.free 3
  have q4 := HR3.out.free 4
  go_cut [54] (fun s54 wc => s54 = .bool true ∧ w3 = wc)
  case first =>
    rcases hmiss with rfl | hb
    · go_wp2_with fail
      go_meet
      case rel => exact ⟨rfl, rfl⟩
    · have hb2 : (a0 != k) = true := by simp [bne, hb]
      cases ok
      · go_wp2_with fail
        go_meet
        case rel => exact ⟨rfl, rfl⟩
      · go_wp2_with fail
        go_meet
        case rel => exact ⟨rfl, rfl⟩
  case rest =>
    obtain ⟨rfl, rfl⟩ := hcut
    clear hmiss
    go_wp2_with fail
    have h5 := HR3.out.fill5 (.int .i64 0) (.int .i64 0) (.bool false) (.slice none 0 0) (.slice none 0 0)
    generalize (((((w3.setCell ⟨rb, 0, none⟩ (.int .i64 0)).setCell ⟨rb, 1, none⟩ (.int .i64 0)).setCell ⟨rb, 2, none⟩ (.bool false)).setCell ⟨rb, 3, none⟩ (.slice none 0 0)).setCell ⟨rb, 4, none⟩ (.slice none 0 0)) = w8 at h5 ⊢
    obtain ⟨h5, o5⟩ := h5
    have e0 := h5.cell 0 rfl
    have e1 := h5.cell 1 rfl
    have e2 := h5.cell 2 rfl
    have e3 := h5.cell 3 rfl
    have e4 := h5.cell 4 rfl
    refine bodyPost_ret (v := .tuple #[.agg #[.int .i64 0, .int .i64 0, .bool false, .slice none 0 0, .slice none 0 0], .int .i64 122]) (by simp [results, Try.results22, go_sem, e0, e1, e2, e3, e4]) rfl ⟨rfl, ?_⟩
    exact (HWA.out.2.1.trans HO3.out).past o5 (fun b hb => by simp at hb; right; have := HRB.out; omega)

end Go.Proofs.Ytacegkjobfeiiaa

