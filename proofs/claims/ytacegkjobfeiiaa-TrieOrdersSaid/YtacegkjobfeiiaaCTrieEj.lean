/- The chapter's examples: what the edits make of nine places; skeinruns.Ints of equal lists. Conditions: the map stands in memory as TrAt says. -/
import Derived.Test.YtacegkjobfeiiaaCPlain
import Derived.Test.YtacegkjobfeiiaaCAskX
import Derived.Test.YtacegkjobfeiiaaCTrieEe
set_option linter.unusedVariables false
set_option linter.unusedSimpArgs false
set_option linter.unusedSectionVars false
set_option linter.unnecessarySimpa false
namespace Go.Proofs.Ytacegkjobfeiiaa
open Go.RowKit

def kx1 : Tr := .leaf 1 5 50
def kx2 : Tr := .node 3 1 4 (.leaf 1 5 50) (.leaf 2 7 70)
def kx3 : Tr := .node 6 1 4 (.leaf 1 5 50) (.node 5 0 6 (.leaf 4 6 60) (.leaf 2 7 70))

theorem pw_0 : pw 0 = 1 := rfl
theorem pw_1 : pw 1 = 2 := rfl
theorem pw_2 : pw 2 = 4 := rfl
theorem pw_3 : pw 3 = 8 := rfl

theorem plc_7_5 {p : Nat} (h : Plc 7 5 p) : p = 1 := by
  obtain ⟨h1, h2⟩ := h
  match p, h1, h2 with
  | 0, h1, _ => exact absurd h1 (by decide)
  | 1, _, _ => rfl
  | 2, _, h2 => exact absurd (show (7 : Int) / pw 2 = 5 / pw 2 by decide) h2
  | p + 3, _, h2 =>
    exfalso
    apply h2
    have h3 : pw 3 ≤ pw (p + 3) := by
      have : 2 ^ 3 ≤ 2 ^ (p + 3) := Nat.pow_le_pow_right (by decide) (by omega)
      unfold pw; omega
    rw [pw_3] at h3
    rw [Int.ediv_eq_zero_of_lt (by omega) (by omega), Int.ediv_eq_zero_of_lt (by omega) (by omega)]

theorem plc_6_7 {p : Nat} (h : Plc 6 7 p) : p = 0 := by
  obtain ⟨h1, h2⟩ := h
  match p, h1, h2 with
  | 0, _, _ => rfl
  | 1, _, h2 => exact absurd (show (6 : Int) / pw 1 = 7 / pw 1 by decide) h2
  | 2, _, h2 => exact absurd (show (6 : Int) / pw 2 = 7 / pw 2 by decide) h2
  | p + 3, _, h2 =>
    exfalso
    apply h2
    have h3 : pw 3 ≤ pw (p + 3) := by
      have : 2 ^ 3 ≤ 2 ^ (p + 3) := Nat.pow_le_pow_right (by decide) (by omega)
      unfold pw; omega
    rw [pw_3] at h3
    rw [Int.ediv_eq_zero_of_lt (by omega) (by omega), Int.ediv_eq_zero_of_lt (by omega) (by omega)]

theorem down_1_7 : down kx1 7 = ([], .leaf 1 5 50) := rfl
theorem down_2_6 : down kx2 6 = ([⟨3, 1, 4, .leaf 1 5 50, .leaf 2 7 70, true⟩], .leaf 2 7 70) := by
  simp [down, kx2, pw]
theorem down_3_6 : down kx3 6 = ([⟨6, 1, 4, .leaf 1 5 50, .node 5 0 6 (.leaf 4 6 60) (.leaf 2 7 70), true⟩, ⟨5, 0, 6, .leaf 4 6 60, .leaf 2 7 70, false⟩], .leaf 4 6 60) := by
  simp [down, kx3, pw]

theorem put_is_2 {oy : Option Tr} {m : Nat} {gs : List Nat} (h : PutIs [2, 3, 4, 5, 6, 7, 8, 9] kx1 7 70 oy m gs) : oy = some kx2 ∧ m = 2 ∧ gs = [] := by
  unfold PutIs at h
  rw [down_1_7] at h
  rcases h with ⟨_, _, _, i, h⟩ | ⟨kk, cur0, gs0, hc, rfl, rfl, rfl⟩
  · simp at h
  · rcases hc with ⟨i, u, j, r, h, _⟩ | ⟨j0, j1, r, p, _, hfs, rfl, rfl, hp, rfl⟩
    · simp at h
    · simp at hfs
      obtain ⟨rfl, rfl, _⟩ := hfs
      have := plc_7_5 hp
      subst this
      refine ⟨?_, rfl, rfl⟩
      simp [rebuild, fork, Tr.lo, kx2, pw]

theorem put_is_3 {oy : Option Tr} {m : Nat} {gs : List Nat} (h : PutIs [4, 5, 6, 7, 8, 9] kx2 6 60 oy m gs) : oy = some kx3 ∧ m = 3 ∧ gs = [3] := by
  unfold PutIs at h
  rw [down_2_6] at h
  rcases h with ⟨_, _, _, i, h⟩ | ⟨kk, cur0, gs0, hc, rfl, rfl, rfl⟩
  · simp at h
  · rcases hc with ⟨i, u, j, r, h, _⟩ | ⟨j0, j1, r, p, _, hfs, rfl, rfl, hp, rfl⟩
    · simp at h
    · simp at hfs
      obtain ⟨rfl, rfl, _⟩ := hfs
      have := plc_6_7 hp
      subst this
      refine ⟨?_, rfl, rfl⟩
      simp [rebuild, fork, Tr.lo, kx3, pw, Stp.anew]

theorem drop_is {oy : Option Tr} {m : Nat} {gs : List Nat} (h : DropIs kx3 6 oy m gs) : m = 1 ∧ gs.length = 3 := by
  unfold DropIs at h
  rw [down_3_6] at h
  rcases h with ⟨h, _⟩ | ⟨h1, h2⟩
  · simp at h
  · simp at h1 h2; exact ⟨h1, h2⟩

theorem wf_kx1 : kx1.wf := by unfold kx1 Tr.wf; omega
theorem wf_kx2 : kx2.wf := by
  refine ⟨by decide, ⟨1, by decide⟩, by decide, by decide, ?_, ?_, by decide, by decide, by decide, by decide⟩ <;> (unfold Tr.wf; omega)

/-- Nine places and one map in memory. -/
structure K9 (A : PA) (tb : Nat) (S : Nat → Sl) (t : Int) (fs : List Nat) (c : Int) (ox : Option Tr) (w : World) : Prop where
  tr : TrAt w tb A 9 S t fs 0
  fre : Fre 9 S fs c
  rep : RepO 9 S ox

/-- An edit's value. -/
def edV (root old : Int) (had : Bool) (gv mv : Value) : Value := .agg #[.int .i64 root, .int .i64 old, .bool had, gv, mv]

def K1Post (A : PA) (tb : Nat) (w : World) (e : Ending) (w' : World) : Prop :=
  ∃ S ga ma gc mc, e = .returned (.tuple #[edV (wd 1 1) 0 false (.slice ga 0 gc) (.slice ma 1 mc), .int .i64 0]) ∧ K9 A tb S 1 [2, 3, 4, 5, 6, 7, 8, 9] 1 (some kx1) w' ∧ (S 1).gen = 1 ∧ (∀ i, i ≠ 1 → (S i).gen = 0) ∧ Only A.all w w'

theorem k_put1 {A : PA} {tb : Nat} {w : World} (T : TrAt w tb A 9 (fun _ => slot0) 0 [1, 2, 3, 4, 5, 6, 7, 8, 9] 0) :
    Calls Try.prog 20 #[.pointer (some ⟨tb, 0, none⟩), .pointer none, .int .i64 0, .int .i64 5, .int .i64 50] w (K1Post A tb w) := by
  have F : Fre 9 (fun _ => slot0) [1, 2, 3, 4, 5, 6, 7, 8, 9] 0 := ⟨by decide, fun i hi => by simp at hi; simp [slot0]; omega, fun i => by simp [slot0]⟩
  refine (put_none_x T F (by omega) (by decide) (by omega)).mono ?_
  rintro e w' (h | h)
  · obtain ⟨oy, S', t', m, gs, rest, gv, mv, rfl, hR, _, hM, hT, hg, hm, _, _, _, _, hO, j, r, hj, rfl, rfl, rfl⟩ := h
    simp at hj
    obtain ⟨rfl, _⟩ := hj
    obtain ⟨ga, gc, rfl⟩ := own_slice_any hg
    obtain ⟨ma, mc, rfl⟩ := own_slice_any hm
    have hg1 : (S' 1).gen = 1 := by have := hM.gen 1 (by simp); simpa [slot0] using this
    have ht : t' = 1 := by have := hM.tag; omega
    subst ht
    refine ⟨S', ga, ma, gc, mc, ?_, ⟨hT, hM.fre F, hR⟩, hg1, fun i hi => ?_, hO⟩
    · simp [edV, rootOf, hnd, Tr.slot, hg1]
    · rw [hM.old i (by simpa using hi)]; rfl
  · have := h.1; simp at this

def K2Post (A : PA) (tb : Nat) (w : World) (e : Ending) (w' : World) : Prop :=
  ∃ S ga ma gc mc, e = .returned (.tuple #[edV (wd 3 1) 0 false (.slice ga 0 gc) (.slice ma 2 mc), .int .i64 0]) ∧ K9 A tb S 3 [4, 5, 6, 7, 8, 9] 2 (some kx2) w' ∧ (∀ i, i = 1 ∨ i = 2 ∨ i = 3 → (S i).gen = 1) ∧ (∀ i, 3 < i → (S i).gen = 0) ∧ Only A.all w w'

theorem k_put2 {A : PA} {tb : Nat} {S : Nat → Sl} {w : World} (K : K9 A tb S 1 [2, 3, 4, 5, 6, 7, 8, 9] 1 (some kx1) w) (h1 : (S 1).gen = 1) (h0 : ∀ i, i ≠ 1 → (S i).gen = 0) :
    Calls Try.prog 20 #[.pointer (some ⟨tb, 0, none⟩), .pointer none, .int .i64 (wd 1 1), .int .i64 7, .int .i64 70] w (K2Post A tb w) := by
  have hr : hnd S kx1 = wd 1 1 := by simp [hnd, kx1, Tr.slot, h1]
  have hp := put_some_x (k := 7) (v := 70) K.tr K.fre (by omega) (by decide) K.rep.1 K.rep.2 (by omega)
  rw [hr] at hp
  refine hp.mono ?_
  rintro e w' (h | h)
  · obtain ⟨oy, S', t', m, gs, rest, gv, mv, rfl, hR, _, hM, hT, hg, hm, _, _, _, _, hO, hX⟩ := h
    obtain ⟨rfl, rfl, rfl⟩ := put_is_2 hX
    obtain ⟨ga, gc, rfl⟩ := own_slice_any hg
    obtain ⟨ma, mc, rfl⟩ := own_slice_any hm
    have hgn : ∀ i, i = 1 ∨ i = 2 ∨ i = 3 → (S' i).gen = 1 := by
      rintro i (rfl | rfl | rfl)
      · rw [hM.old 1 (by simp)]; exact h1
      · rw [hM.gen 2 (by simp), h0 2 (by decide)]; rfl
      · rw [hM.gen 3 (by simp), h0 3 (by decide)]; rfl
    have ht : t' = 3 := by have := hM.tag; omega
    subst ht
    refine ⟨S', ga, ma, gc, mc, ?_, ⟨hT, hM.fre K.fre, hR⟩, hgn, fun i hi => ?_, hO⟩
    · rw [show rootOf S' (some kx2) = wd 3 1 by simp [rootOf, hnd, kx2, Tr.slot, hgn 3]]
      rfl
    · rw [hM.old i (by simp; omega)]; exact h0 i (by omega)
  · have := h.1; rw [down_1_7] at this; simp at this

def K3Post (A : PA) (tb : Nat) (w : World) (e : Ending) (w' : World) : Prop :=
  ∃ S ga ma gc mc, e = .returned (.tuple #[edV (hnd S kx3) 0 false (.slice ga 1 gc) (.slice ma 3 mc), .int .i64 0]) ∧ K9 A tb S 6 [7, 8, 9] 3 (some kx3) w' ∧ Rep 9 S kx2 ∧ (∀ i, i = 1 ∨ i = 2 ∨ i = 3 → (S i).gen = 1) ∧ Reads w' (.slice ga 1 gc) [wd 3 1] ∧ (∀ b, (Value.slice ga 1 gc).ownBlock = some b → w.heap.size ≤ b) ∧ Only A.all w w'

theorem k_put3 {A : PA} {tb : Nat} {S : Nat → Sl} {w : World} (K : K9 A tb S 3 [4, 5, 6, 7, 8, 9] 2 (some kx2) w) (h1 : ∀ i, i = 1 ∨ i = 2 ∨ i = 3 → (S i).gen = 1) :
    Calls Try.prog 20 #[.pointer (some ⟨tb, 0, none⟩), .pointer none, .int .i64 (wd 3 1), .int .i64 6, .int .i64 60] w (K3Post A tb w) := by
  have hr : hnd S kx2 = wd 3 1 := by simp [hnd, kx2, Tr.slot, h1 3]
  have hp := put_some_x (k := 6) (v := 60) K.tr K.fre (by omega) (by decide) K.rep.1 K.rep.2 (by omega)
  rw [hr] at hp
  refine hp.mono ?_
  rintro e w' (h | h)
  · obtain ⟨oy, S', t', m, gs, rest, gv, mv, rfl, hR, _, hM, hT, hg, hm, _, _, _, _, hO, hX⟩ := h
    obtain ⟨rfl, rfl, rfl⟩ := put_is_3 hX
    have hrd : Reads w' gv [wd 3 1] := by
      have := Reads.of_own hg
      simpa [hnds, h1 3] using this
    obtain ⟨ga, gc, rfl⟩ := own_slice_any hg
    obtain ⟨ma, mc, rfl⟩ := own_slice_any hm
    have ht : t' = 6 := by have := hM.tag; omega
    subst ht
    have hold : ∀ i, i = 1 ∨ i = 2 ∨ i = 3 → S' i = S i := by
      rintro i (rfl | rfl | rfl) <;> exact hM.old _ (by simp)
    have hk2 : Rep 9 S' kx2 := K.rep.1.same (fun i hi => hold i (by simp [kx2, Tr.slots] at hi; omega))
    exact ⟨S', ga, ma, gc, mc, rfl, ⟨hT, hM.fre K.fre, hR⟩, hk2, fun i hi => by rw [hold i hi]; exact h1 i hi, hrd, fun b hb => (hg.lt b hb).1, hO⟩
  · have := h.1; rw [down_2_6] at this; simp at this

theorem K9.plain {A : PA} {tb : Nat} {S : Nat → Sl} {t c : Int} {fs : List Nat} {ox : Option Tr} {w w' : World} (h : K9 A tb S t fs c ox w) (o : Only [] w w') : K9 A tb S t fs c ox w' := ⟨h.tr.plain o, h.fre, h.rep⟩

theorem k_read {A : PA} {tb : Nat} {S : Nat → Sl} {t c : Int} {fs : List Nat} {ox : Option Tr} {w : World} (K : K9 A tb S t fs c ox w) (R : Rep 9 S kx2) (h1 : ∀ i, i = 1 ∨ i = 2 ∨ i = 3 → (S i).gen = 1) :
    Calls Try.prog 25 #[.pointer (some ⟨A.p, 0, none⟩), .pointer none, .int .i64 (wd 3 1)] w fun e w' => e = .returned (.tuple #[.agg #[.int .i64 258, .int .i64 (wd 1 1), .int .i64 (wd 2 1), .int .i64 2], .int .i64 0]) ∧ Only [] w w' := by
  have hr : hnd S kx2 = wd 3 1 := by simp [hnd, kx2, Tr.slot, h1 3]
  have hm := R.meets (A := A) (t := t) (fs := fs) (fa := 0) (by omega)
  rw [hr] at hm
  refine (pool_read A 9 3 S t fs 0 (wd 3 1) w K.tr.pool (by omega) hm).mono ?_
  rintro e w' ⟨rfl, hX⟩
  obtain ⟨_, ha, hb, hc, hd, _⟩ := R
  rw [ha, hb, hc, hd]
  refine ⟨?_, hX⟩
  simp [hnd, Tr.slot, Tr.cnt, h1 1, h1 2]

def K5Post (A : PA) (w : World) (e : Ending) (w' : World) : Prop :=
  ∃ r ga ma gc mc, e = .returned (.tuple #[edV r 60 true (.slice ga 3 gc) (.slice ma 1 mc), .int .i64 0]) ∧ Only A.all w w'

theorem k_drop {A : PA} {tb : Nat} {S : Nat → Sl} {w : World} (K : K9 A tb S 6 [7, 8, 9] 3 (some kx3) w) :
    Calls Try.prog 22 #[.pointer (some ⟨tb, 0, none⟩), .pointer none, .int .i64 (hnd S kx3), .int .i64 6] w (K5Post A w) := by
  have hd : (down kx3 6).2 = .leaf 4 6 60 := by rw [down_3_6]
  refine (drop_hit_x K.tr K.fre (by omega) (by decide) K.rep.1 K.rep.2 (by omega) hd).mono ?_
  have ho := way_old K.rep.2 hd
  rintro e w' (h | h)
  · obtain ⟨oy, S', t', m, gs, rest, gv, mv, rfl, hR, _, hM, hT, hg, hm, _, _, _, _, hO, hX⟩ := h
    obtain ⟨rfl, hgl⟩ := drop_is hX
    obtain ⟨ga, gc, rfl⟩ := own_slice_any hg
    obtain ⟨ma, mc, rfl⟩ := own_slice_any hm
    rw [hgl, ho.1, ho.2]
    exact ⟨_, ga, ma, gc, mc, rfl, hO⟩
  · have := h.1; rw [down_3_6] at this; simp at this

theorem k_rank : rankAt 7 (down kx3 7).1 (down kx3 7).2 = 2 := by
  simp [down, kx3, pw, rankAt, Tr.hi, Tr.cnt]
theorem k_sel : kx3.sel 1 = (6, 60) := by simp [kx3, Tr.sel, Tr.cnt]
theorem k_next5 : nextAt (5 + 1) (down kx3 (5 + 1)).1 (down kx3 (5 + 1)).2 = some (6, 60) := by
  simp [down, kx3, pw, nextAt, Tr.lo, Tr.least]
theorem k_next7 : nextAt (7 + 1) (down kx3 (7 + 1)).1 (down kx3 (7 + 1)).2 = none := by
  simp [down, kx3, pw, nextAt, Tr.lo, Tr.least]

set_option maxHeartbeats 800000 in
theorem runs_ints (v1 v2 : Value) (xs : List Int) (w : World) (h1 : Reads w v1 xs) (h2 : Reads w v2 xs) (hl : xs.length ≤ 100000) :
    Calls Try.prog 26 #[v1, v2] w fun e w' => e = .returned (.bool true) ∧ Only [] w w' := by
  obtain ⟨a1, c1, rfl, h1⟩ := h1
  obtain ⟨a2, c2, rfl, h2⟩ := h2
  have H1 := Lib.hid h1
  have H2 := Lib.hid h2
  clear h1 h2
  go_enter Try.func26, Try.ntmps26
  go_wp2_with fail
  go_loopg [5] xs.length (fun g s5 wr => ∃ k : Nat, k + g = xs.length ∧ s5 = .int .i64 k ∧ Only [] w wr)
  case atStart => exact ⟨0, by omega, rfl, Only.refl _ _⟩
  case round =>
    obtain ⟨k, hk, rfl, hO⟩ := hrel
    have HK := Lib.hid hk
    by_cases hkn : k < xs.length
    · obtain ⟨b1, o1, rfl, hb1, hc1⟩ := H1.out.resolve_left (fun e => by rw [e] at hkn; exact absurd hkn (Nat.not_lt_zero _))
      obtain ⟨b2, o2, rfl, hb2, hc2⟩ := H2.out.resolve_left (fun e => by rw [e] at hkn; exact absurd hkn (Nat.not_lt_zero _))
      have hx1 := (hO.cell (p := ⟨b1, o1 + k, none⟩) hb1 (by simp)).trans (hc1 k hkn)
      have hx2 := (hO.cell (p := ⟨b2, o2 + k, none⟩) hb2 (by simp)).trans (hc2 k hkn)
      generalize xs.getD k 0 = x at hx1 hx2
      have HO := Lib.hid hO
      have hki : (k : Int) < xs.length := by omega
      have hk1 : (k : Int) ≤ 100000 := by omega
      clear hc1 hc2 hk hO
      go_wp2_with fail
      go_quiet (fail)
      go_wp2_with fail
      go_roundg (gk - 1)
      case measure => have := HK.out; omega
      case rel => exact ⟨k + 1, by have := HK.out; omega, by go_num, HO.out.trans (Only.drewN [] _ _)⟩
    · have hkn' : k = xs.length := by omega
      subst hkn'
      clear hk
      go_wp2_with fail
      go_ret
      exact ⟨rfl, hO⟩

end Go.Proofs.Ytacegkjobfeiiaa

