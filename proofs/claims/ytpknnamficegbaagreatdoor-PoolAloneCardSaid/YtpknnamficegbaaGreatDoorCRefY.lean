/- The document's pool: its block, its slots, its words; IsHandle and the line with the generation. Conditions: the pool stands in memory as RefQ / RefP say. · The document's pool: the line with the generation, and the calls that read or write a slot's words. Conditions: the pool stands in memory as RefP says. -/
import Derived.Test.YtpknnamficegbaaGreatDoorCRefD
set_option linter.unusedVariables false
set_option linter.unusedSimpArgs false
set_option linter.unusedSectionVars false
set_option linter.unnecessarySimpa false
namespace Go.Proofs.YtpknnamficegbaaGreatDoor
open Go.RowKit

/-- A slot's cells in the document's order; its generation is never written. -/
def Sl.gd (s : Sl) : Nat → Int
  | 0 => 0
  | 1 => s.a
  | 2 => s.b
  | 3 => s.c
  | 4 => s.d
  | 5 => s.mark
  | _ => s.link

def flatD (S : Nat → Sl) (j : Nat) : Int := (S (j / 7)).gd (j % 7)

theorem flatD_at (S : Nat → Sl) (i k : Nat) (hk : k < 7) : flatD S (i * 7 + k) = (S i).gd k := by
  unfold flatD
  rw [show (i * 7 + k) / 7 = i by omega, show (i * 7 + k) % 7 = k by omega]

theorem flatD_upd (S : Nat → Sl) (i k : Nat) (x : Int) (s : Sl) (hk : k < 7) (h0 : s.gd k = x) (h1 : ∀ l, l < 7 → l ≠ k → s.gd l = (S i).gd l) (j : Nat) : upd (flatD S) (i * 7 + k) x j = flatD (upS S i s) j := by
  unfold upd flatD upS
  by_cases hj : j = i * 7 + k
  · subst hj
    rw [if_pos rfl, if_pos (by omega), show (i * 7 + k) % 7 = k by omega, h0]
  · rw [if_neg hj]
    by_cases hi : j / 7 = i
    · rw [if_pos hi, hi]
      exact (h1 (j % 7) (by omega) (by omega)).symm
    · rw [if_neg hi]

theorem flatD_gen (S : Nat → Sl) (i : Nat) (s : Sl) (h1 : ∀ l, l < 7 → s.gd l = (S i).gd l) (j : Nat) : flatD S j = flatD (upS S i s) j := by
  unfold flatD upS
  by_cases hi : j / 7 = i
  · rw [if_pos hi, hi]
    exact (h1 (j % 7) (by omega)).symm
  · rw [if_neg hi]

theorem RowI.slotD {w : World} {b N : Nat} {S : Nat → Sl} {T : TypeId} (h : RowI w b N (flatD S) T) (i k : Nat) (hk : k < 7) (hN : i * 7 + 7 ≤ N) : w.cell? ⟨b, i * 7 + k, none⟩ = some (.int .i64 ((S i).gd k)) := by
  rw [h.cell (show i * 7 + k < N by omega), flatD_at S i k hk]

theorem RowI.putD {w w1 : World} {b N : Nat} {S : Nat → Sl} {T : TypeId} (h : RowI w b N (flatD S) T) (i k : Nat) (x : Int) (s : Sl) (hk : k < 7) (h0 : s.gd k = x) (h1 : ∀ l, l < 7 → l ≠ k → s.gd l = (S i).gd l) (hw : w.setCell ⟨b, i * 7 + k, none⟩ (.int .i64 x) = w1) :
    RowI w1 b N (flatD (upS S i s)) T := by
  subst hw
  exact (h.set (i * 7 + k) x).congr fun j _ => flatD_upd S i k x s hk h0 h1 j

/-- The blocks of the document's pool. -/
structure RP where
  r : Nat
  m : Nat
  wb : Nat
  cap : Nat
  pl : Nat
  sb : Nat

def RP.all (A : RP) : List Nat := [A.r, A.m, A.wb, A.pl, A.sb]

/-- The document's pool, nobody at work. -/
structure RefQ (w : World) (A : RP) (n : Nat) (S : Nat → Sl) (hd : Nat) (t : Int) (nx : List Int) (fa : Int) : Prop where
  head : Blk w A.r #[.pointer (some ⟨A.m, 0, none⟩), .pointer (some ⟨A.pl, 0, none⟩), .int .i64 ((n : Int) + 2), .int .i64 n, .slice (some ⟨A.sb, 0, none⟩) (n + 1) (n + 1), .int .i64 fa] 131
  row : RowI w A.sb ((n + 1) * 7) (flatD S) 64
  q : Rq w A.pl A.m A.wb A.cap n hd t nx S
  apart : A.r ≠ A.m ∧ A.r ≠ A.wb ∧ A.r ≠ A.pl ∧ A.r ≠ A.sb ∧ A.sb ≠ A.m ∧ A.sb ≠ A.wb ∧ A.sb ≠ A.pl

/-- The document's pool and the worker that is at work on it. -/
structure RefP (w : World) (A : RP) (tb k n : Nat) (S : Nat → Sl) (hd : Nat) (t : Int) (nx : List Int) (fa : Int) : Prop where
  q : RefQ w A n S hd t nx fa
  th : ThAt w tb A.m k
  low : A.r < tb ∧ A.m < tb ∧ A.wb < tb ∧ A.pl < tb ∧ A.sb < tb

section
variable {w w' : World} {A : RP} {tb k n hd : Nat} {S : Nat → Sl} {t : Int} {nx : List Int} {fa : Int}

theorem RefQ.only {L : List Nat} (h : RefQ w A n S hd t nx fa) (o : Only L w w') (hn : ∀ b, b ∈ A.all → b ∉ L) : RefQ w' A n S hd t nx fa :=
  ⟨h.head.only o (hn _ (by simp [RP.all])), h.row.only o (hn _ (by simp [RP.all])), h.q.only o (hn _ (by simp [RP.all])) (hn _ (by simp [RP.all])) (hn _ (by simp [RP.all])), h.apart⟩

theorem RefQ.plain (h : RefQ w A n S hd t nx fa) (o : Only [] w w') : RefQ w' A n S hd t nx fa := h.only o (by simp)

theorem RefP.mem_lt (h : RefP w A tb k n S hd t nx fa) {b : Nat} (hb : b ∈ A.all) : b < tb := by
  have := h.low
  simp [RP.all] at hb
  omega

theorem RefP.step {k' : Nat} (h : RefP w A tb k n S hd t nx fa) (hT : ThAt w' tb A.m k') (o : Byd tb [] w w') : RefP w' A tb k' n S hd t nx fa :=
  ⟨h.q.only o.only (fun b hb => Byd.not_in (h.mem_lt hb) (by simp)), hT, h.low⟩

theorem RefP.mono {k' : Nat} (h : RefP w A tb k n S hd t nx fa) (hk : k ≤ k') : RefP w A tb k' n S hd t nx fa := ⟨h.q, h.th.mono hk, h.low⟩

theorem RefQ.c (h : RefQ w A n S hd t nx fa) : w.cell? ⟨A.r, 0, none⟩ = some (.pointer (some ⟨A.m, 0, none⟩)) ∧ w.cell? ⟨A.r, 1, none⟩ = some (.pointer (some ⟨A.pl, 0, none⟩)) ∧ w.cell? ⟨A.r, 2, none⟩ = some (.int .i64 ((n : Int) + 2)) ∧ w.cell? ⟨A.r, 3, none⟩ = some (.int .i64 n) ∧ w.cell? ⟨A.r, 4, none⟩ = some (.slice (some ⟨A.sb, 0, none⟩) (n + 1) (n + 1)) ∧ w.cell? ⟨A.r, 5, none⟩ = some (.int .i64 fa) :=
  ⟨h.head.cell 0 rfl, h.head.cell 1 rfl, h.head.cell 2 rfl, h.head.cell 3 rfl, h.head.cell 4 rfl, h.head.cell 5 rfl⟩

/-- Behind a step that has written slots alone. -/
theorem RefP.slots {k' : Nat} {S' : Nat → Sl} (h : RefP w A tb k n S hd t nx fa) (hr : RowI w' A.sb ((n + 1) * 7) (flatD S') 64) (hg : ∀ i, (S' i).gen = (S i).gen) (o : Only [A.sb] w w') (hk : k ≤ k') : RefP w' A tb k' n S' hd t nx fa := by
  have ha := h.q.apart
  have hl := h.low
  have hq := h.q.q.only o (by simp; exact fun e => ha.2.2.2.2.2.2 e.symm) (by simp; exact fun e => ha.2.2.2.2.1 e.symm) (by simp; exact fun e => ha.2.2.2.2.2.1 e.symm)
  have hw : wordsF n hd t nx S = wordsF n hd t nx S' := by
    funext j
    unfold wordsF
    rw [hg]
  exact ⟨⟨h.q.head.only o (by simp [ha.2.2.2.1]), hr, ⟨hq.pile, hw ▸ hq.mem, hq.off, hq.many, hq.tag, hq.hdr, hq.len, hq.rng⟩, ha⟩, (h.th.only o (by simp; omega)).mono hk, hl⟩

theorem Byd.slots {L : List Nat} (h : RefP w A tb k n S hd t nx fa) (o : Only L w w') (hL : ∀ b, b ∈ L → b ∈ A.all) : Byd tb A.all w w' := Byd.of o h.th.lt (fun b hb => ⟨hL b hb, fun e => by have := h.mem_lt (hL b hb); omega⟩)

theorem Byd.all {B : List Nat} (h : Byd tb [] w w') : Byd tb B w w' := h.mono (by simp)

set_option maxHeartbeats 800000 in
theorem ref_index (h : Int) (w : World) : Calls Tryz.prog 79 #[.int .i64 h] w fun e w' => e = .returned (.int .i64 (idxOf h)) ∧ w = w' := by
  have HI := Lib.hid (fun w => ref_idx h w)
  go_enter Tryz.func79, Tryz.ntmps79
  go_wp2_with fail
  refine (HI.out _).mono ?_
  rintro e w' ⟨rfl, rfl⟩
  go_wp2_with fail
  go_ret
  exact ⟨rfl, rfl⟩

set_option maxHeartbeats 800000 in
theorem ref_is_handle {h : Int} {b : Bool} (hb : b = true ↔ isHandle n h) (w : World) (hn : n ≤ 4096) (c3 : w.cell? ⟨A.r, 3, none⟩ = some (.int .i64 n)) :
    Calls Tryz.prog 77 #[.pointer (some ⟨A.r, 0, none⟩), .int .i64 h] w fun e w' => e = .returned (.bool b) ∧ w = w' := by
  have HI := Lib.hid (fun w => ref_index h w)
  have HT := Lib.hid (fun w => ref_tg h w)
  have hir := idxOf_range h
  have htr := tagOf_range h
  unfold isHandle at hb
  generalize idxOf h = x at *
  generalize tagOf h = g at *
  obtain ⟨hx0, hx1⟩ := hir
  obtain ⟨hg0, hg1⟩ := htr
  have e2 : g.tmod 2 = g % 2 := Int.tmod_eq_emod_of_nonneg hg0
  by_cases h1 : 1 ≤ x
  · by_cases h2 : x ≤ n
    · have hb2 : (g % 2 == 1) = b := by
        rw [Bool.eq_iff_iff, hb]
        simp [h1, h2]
      clear hb
      go_enter Tryz.func77, Tryz.ntmps77
      go_wp2_with fail
      refine (HI.out _).mono ?_
      rintro e w' ⟨rfl, rfl⟩
      go_wp2_with fail
      refine (HT.out _).mono ?_
      rintro e w' ⟨rfl, rfl⟩
      go_wp2_with fail
      go_ret
      exact ⟨rfl, rfl⟩
    · have hb2 : b = false := by
        rw [Bool.eq_false_iff, Ne, hb]
        simp [h2]
      subst hb2
      clear hb
      go_enter Tryz.func77, Tryz.ntmps77
      go_wp2_with fail
      refine (HI.out _).mono ?_
      rintro e w' ⟨rfl, rfl⟩
      go_wp2_with fail
      go_ret
      exact ⟨rfl, rfl⟩
  · have hb2 : b = false := by
      rw [Bool.eq_false_iff, Ne, hb]
      simp [h1]
    subst hb2
    clear hb
    go_enter Tryz.func77, Tryz.ntmps77
    go_wp2_with fail
    refine (HI.out _).mono ?_
    rintro e w' ⟨rfl, rfl⟩
    go_wp2_with fail
    go_ret
    exact ⟨rfl, rfl⟩

end

end Go.Proofs.YtpknnamficegbaaGreatDoor

namespace Go.Proofs.YtpknnamficegbaaGreatDoor
open Go.RowKit

section
variable {w w' : World} {A : RP} {tb k n hd : Nat} {S : Nat → Sl} {t : Int} {nx : List Int} {fa : Int}

theorem RefP.m (h : RefP w A tb k n S hd t nx fa) : w.cell? ⟨tb, 2, none⟩ = some (.bool false) := h.th.m.2

theorem gen_read (h : RefP w A tb k n S hd t nx fa) {i : Nat} (h2 : i ≤ n) (hk : k ≤ 900000) : Calls Tryz.prog 115 #[.pointer (some ⟨tb, 0, none⟩), .int .i64 ((n + 2 + i : Nat) : Int)] w fun e w' => e = .returned (.int .i64 (S i).gen) ∧ RefP w' A tb (k + 2) n S hd t nx fa ∧ Byd tb [] w w' := by
  have hm := h.q.q.many
  refine (th_load (a := n + 2 + i) h.th hk h.q.q.mem h.low.2.1 h.low.2.2.1 (by omega) (by omega)).mono ?_
  rintro e w' ⟨rfl, hT, hX⟩
  rw [wordsF_gen]
  exact ⟨rfl, h.step hT hX, hX⟩

set_option maxHeartbeats 1000000 in
theorem ref_meet_ok {h : Int} {i : Nat} (H : RefP w A tb k n S hd t nx fa) (hk : k ≤ 800000) (h1 : 1 ≤ i) (h2 : i ≤ n) (hi : idxOf h = i) (hg : tagOf h % 2 = 1) (hS : (S i).gen = tagOf h) :
    Calls Tryz.prog 83 #[.pointer (some ⟨A.r, 0, none⟩), .pointer (some ⟨tb, 0, none⟩), .int .i64 h] w fun e w' => e = .returned (.tuple #[.int .i64 (i : Nat), .int .i64 0]) ∧ RefP w' A tb (k + 4) n S hd t nx fa ∧ Byd tb A.all w w' := by
  have hm := H.q.q.many
  obtain ⟨c0, c1, c2, c3, c4, c5⟩ := H.q.c
  have HB := Lib.hid (fun w c3 => ref_is_handle (A := A) (n := n) (h := h) (b := true) ⟨fun _ => ⟨by omega, by omega, hg⟩, fun _ => rfl⟩ w hm.2 c3)
  have HI := Lib.hid (fun w => ref_index h w)
  have HT := Lib.hid (fun w => ref_tg h w)
  have HL := Lib.hid (gen_read H h2 (by omega))
  rw [hi] at HI
  rw [hS] at HL
  generalize tagOf h = g at *
  have hw1 : IntKind.i64.wrap ((n : Int) + 2 + (i : Int)) = ((n + 2 + i : Nat) : Int) := by rw [IntWalk.i64_in _ ⟨by omega, by omega⟩]; omega
  clear H hi hS
  go_enter Tryz.func83, Tryz.ntmps83
  go_wp2_with fail
  refine (HB.out _ c3).mono ?_
  rintro e w' ⟨rfl, rfl⟩
  go_wp2_with fail
  refine (HI.out _).mono ?_
  rintro e w' ⟨rfl, rfl⟩
  go_wp2_with fail
  refine HL.out.mono ?_
  rintro e w1 ⟨rfl, hP, hX⟩
  have t2 := hP.m
  have HP := Lib.hid (And.intro hP hX)
  clear hP hX c0 c1 c2 c3 c4 c5
  go_wp2_with fail
  refine (HT.out _).mono ?_
  rintro e w' ⟨rfl, rfl⟩
  go_wp2_with fail
  go_ret2
  exact ⟨rfl, HP.out.1.mono (by omega), HP.out.2.all⟩

set_option maxHeartbeats 1000000 in
theorem ref_meet_bad {h : Int} (H : RefP w A tb k n S hd t nx fa) (hk : k ≤ 800000) (hb : ¬ isHandle n h) :
    Calls Tryz.prog 83 #[.pointer (some ⟨A.r, 0, none⟩), .pointer (some ⟨tb, 0, none⟩), .int .i64 h] w fun e w' => e = .returned (.tuple #[.int .i64 0, .int .i64 103]) ∧ RefP w' A tb (k + 4) n S hd t nx fa ∧ Byd tb A.all w w' := by
  have hm := H.q.q.many
  obtain ⟨c0, c1, c2, c3, c4, c5⟩ := H.q.c
  have HB := Lib.hid (fun w c3 => ref_is_handle (A := A) (n := n) (h := h) (b := false) ⟨fun e => Bool.noConfusion e, fun e => absurd e hb⟩ w hm.2 c3)
  have HL := Lib.hid (th_line H.th (by omega))
  have H' := Lib.hid H
  clear H hb
  go_enter Tryz.func83, Tryz.ntmps83
  go_wp2_with fail
  refine (HB.out _ c3).mono ?_
  rintro e w' ⟨rfl, rfl⟩
  go_wp2_with fail
  refine HL.out.mono ?_
  rintro e w1 ⟨rfl, hT, hX⟩
  have HP := Lib.hid (And.intro ((H'.out.step hT hX).mono (k' := k + 4) (by omega)) hX)
  clear hT hX c0 c1 c2 c3 c4 c5
  go_wp2_with fail
  go_ret2
  exact ⟨rfl, HP.out.1, HP.out.2.all⟩

theorem RefP.fault {fa' : Int} (H : RefP w A tb k n S hd t nx fa) (hw : w.setCell ⟨A.r, 5, none⟩ (.int .i64 fa') = w') : RefP w' A tb k n S hd t nx fa' ∧ Byd tb A.all w w' := by
  subst hw
  have ha := H.q.apart
  have hl := H.low
  have o : Only [A.r] w (w.setCell ⟨A.r, 5, none⟩ (.int .i64 fa')) := Only.setCell _ (by simp) _
  exact ⟨⟨⟨H.q.head.set_same 5 _, H.q.row.only o (by simp; exact fun e => ha.2.2.2.1 e.symm), H.q.q.only o (by simp; exact fun e => ha.2.2.1 e.symm) (by simp; exact fun e => ha.1 e.symm) (by simp; exact fun e => ha.2.1 e.symm), ha⟩, H.th.only o (by simp; omega), hl⟩, Byd.slots H o (by simp [RP.all])⟩

set_option maxHeartbeats 1000000 in
theorem ref_meet_gone {h : Int} {i : Nat} (H : RefP w A tb k n S hd t nx fa) (hk : k ≤ 800000) (h1 : 1 ≤ i) (h2 : i ≤ n) (hi : idxOf h = i) (hg : tagOf h % 2 = 1) (hS : (S i).gen ≠ tagOf h) (hfa : 0 ≤ fa ∧ fa ≤ 1000000000000) :
    Calls Tryz.prog 83 #[.pointer (some ⟨A.r, 0, none⟩), .pointer (some ⟨tb, 0, none⟩), .int .i64 h] w fun e w' => e = .returned (.tuple #[.int .i64 0, .int .i64 104]) ∧ RefP w' A tb (k + 4) n S hd t nx (fa + 1) ∧ Byd tb A.all w w' := by
  have hm := H.q.q.many
  obtain ⟨c0, c1, c2, c3, c4, c5⟩ := H.q.c
  have HB := Lib.hid (fun w c3 => ref_is_handle (A := A) (n := n) (h := h) (b := true) ⟨fun _ => ⟨by omega, by omega, hg⟩, fun _ => rfl⟩ w hm.2 c3)
  have HI := Lib.hid (fun w => ref_index h w)
  have HT := Lib.hid (fun w => ref_tg h w)
  have HL := Lib.hid (gen_read H h2 (by omega))
  rw [hi] at HI
  have hne : ((S i).gen != tagOf h) = true := by simpa using hS
  generalize (S i).gen = g' at *
  generalize tagOf h = g at *
  have hw1 : IntKind.i64.wrap ((n : Int) + 2 + (i : Int)) = ((n + 2 + i : Nat) : Int) := by rw [IntWalk.i64_in _ ⟨by omega, by omega⟩]; omega
  have hw2 : IntKind.i64.wrap (fa + 1) = fa + 1 := IntWalk.i64_in _ ⟨by omega, by omega⟩
  clear H hi hS
  go_enter Tryz.func83, Tryz.ntmps83
  go_wp2_with fail
  refine (HB.out _ c3).mono ?_
  rintro e w' ⟨rfl, rfl⟩
  go_wp2_with fail
  refine (HI.out _).mono ?_
  rintro e w' ⟨rfl, rfl⟩
  go_wp2_with fail
  refine HL.out.mono ?_
  rintro e w1 ⟨rfl, hP, hX⟩
  have t2 := hP.m
  have HP := Lib.hid (And.intro hP hX)
  clear hP hX c0 c1 c2 c3 c4 c5
  go_wp2_with fail
  refine (HT.out _).mono ?_
  rintro e w' ⟨rfl, rfl⟩
  go_wp2_with fail
  refine (th_fresh HP.out.1.th (by omega)).mono ?_
  rintro e w2 ⟨rfl, hT, hX⟩
  have hP2 := HP.out.1.step hT hX
  obtain ⟨d0, d1, d2, d3, d4, d5⟩ := hP2.q.c
  have hf5 := hP2.q.head.free 5
  have HP2 := Lib.hid (And.intro hP2 (HP.out.2.trans hX))
  clear hP2 hT hX t2
  go_wp2_with fail
  obtain ⟨w3, hw3⟩ : ∃ w3, w2.setCell ⟨A.r, 5, none⟩ (.int .i64 (fa + 1)) = w3 := ⟨_, rfl⟩
  rw [hw3]
  have h3 := HP2.out.1.fault hw3
  go_ret2
  exact ⟨rfl, h3.1.mono (by omega), HP2.out.2.all.trans h3.2⟩

/-- The handle is one of a slot in use. -/
def DMeets (A : RP) (n : Nat) (S : Nat → Sl) (hd : Nat) (t : Int) (nx : List Int) (fa h : Int) (i : Nat) : Prop :=
  ∀ w tb k, k ≤ 800000 → RefP w A tb k n S hd t nx fa → Calls Tryz.prog 83 #[.pointer (some ⟨A.r, 0, none⟩), .pointer (some ⟨tb, 0, none⟩), .int .i64 h] w fun e w' => e = .returned (.tuple #[.int .i64 (i : Nat), .int .i64 0]) ∧ RefP w' A tb (k + 4) n S hd t nx fa ∧ Byd tb A.all w w'

/-- The handle is none's, or one that was given back. -/
def DMisses (A : RP) (n : Nat) (S : Nat → Sl) (hd : Nat) (t : Int) (nx : List Int) (fa h err fa' : Int) : Prop :=
  ∀ w tb k, k ≤ 800000 → RefP w A tb k n S hd t nx fa → Calls Tryz.prog 83 #[.pointer (some ⟨A.r, 0, none⟩), .pointer (some ⟨tb, 0, none⟩), .int .i64 h] w fun e w' => e = .returned (.tuple #[.int .i64 0, .int .i64 err]) ∧ RefP w' A tb (k + 4) n S hd t nx fa' ∧ Byd tb A.all w w'

theorem RefP.slotC (H : RefP w A tb k n S hd t nx fa) {i : Nat} (j : Nat) (hj : j < 7) (h2 : i ≤ n) : w.cell? ⟨A.sb, i * 7 + j, none⟩ = some (.int .i64 ((S i).gd j)) := H.q.row.slotD i j hj (by omega)

set_option maxHeartbeats 1000000 in
theorem ref_mark {h : Int} {i : Nat} (H : RefP w A tb k n S hd t nx fa) (hk : k ≤ 700000) (h2 : i ≤ n) (M : DMeets A n S hd t nx fa h i) :
    Calls Tryz.prog 24 #[.pointer (some ⟨A.r, 0, none⟩), .pointer (some ⟨tb, 0, none⟩), .int .i64 h] w fun e w' => e = .returned (.tuple #[.int .i64 (S i).mark, .int .i64 0]) ∧ RefP w' A tb (k + 9) n S hd t nx fa ∧ Byd tb A.all w w' := by
  have hm := H.q.q.many
  have HM := Lib.hid (M w tb k (by omega) H)
  obtain ⟨x, hx⟩ : ∃ x, (S i).mark = x := ⟨_, rfl⟩
  rw [hx]
  have HXX := Lib.hid hx
  clear H M hx
  go_enter Tryz.func24, Tryz.ntmps24
  go_wp2_with fail
  refine HM.out.mono ?_
  rintro e w1 ⟨rfl, hP, hX⟩
  have t2 := hP.m
  obtain ⟨c0, c1, c2, c3, c4, c5⟩ := hP.q.c
  have hs := hP.slotC 5 (by omega) h2
  rw [show (S i).gd 5 = (S i).mark from rfl, HXX.out] at hs
  have HP := Lib.hid (And.intro hP hX)
  clear hP hX
  go_wp2_with fail
  refine (th_kept (v := x) HP.out.1.th (by omega)).mono ?_
  rintro e w2 ⟨rfl, hT, hX⟩
  have HP2 := Lib.hid (And.intro (HP.out.1.step hT hX) (HP.out.2.trans hX.all))
  clear hT hX t2 c0 c1 c2 c3 c4 c5 hs
  go_wp2_with fail
  go_ret2
  exact ⟨rfl, HP2.out.1.mono (by omega), HP2.out.2⟩

set_option maxHeartbeats 1000000 in
theorem ref_mark_err {h err fa' : Int} (H : RefP w A tb k n S hd t nx fa) (hk : k ≤ 700000) (M : DMisses A n S hd t nx fa h err fa') (he : (err != 0) = true) :
    Calls Tryz.prog 24 #[.pointer (some ⟨A.r, 0, none⟩), .pointer (some ⟨tb, 0, none⟩), .int .i64 h] w fun e w' => e = .returned (.tuple #[.int .i64 0, .int .i64 err]) ∧ RefP w' A tb (k + 9) n S hd t nx fa' ∧ Byd tb A.all w w' := by
  have HM := Lib.hid (M w tb k (by omega) H)
  clear H M
  go_enter Tryz.func24, Tryz.ntmps24
  go_wp2_with fail
  refine HM.out.mono ?_
  rintro e w1 ⟨rfl, hP, hX⟩
  have HP := Lib.hid (And.intro hP hX)
  clear hP hX
  go_wp2_with fail
  go_ret2
  exact ⟨rfl, HP.out.1.mono (by omega), HP.out.2⟩

set_option maxHeartbeats 1000000 in
theorem ref_link {h : Int} {i : Nat} (H : RefP w A tb k n S hd t nx fa) (hk : k ≤ 700000) (h2 : i ≤ n) (M : DMeets A n S hd t nx fa h i) :
    Calls Tryz.prog 28 #[.pointer (some ⟨A.r, 0, none⟩), .pointer (some ⟨tb, 0, none⟩), .int .i64 h] w fun e w' => e = .returned (.tuple #[.int .i64 (S i).link, .int .i64 0]) ∧ RefP w' A tb (k + 9) n S hd t nx fa ∧ Byd tb A.all w w' := by
  have hm := H.q.q.many
  have HM := Lib.hid (M w tb k (by omega) H)
  obtain ⟨x, hx⟩ : ∃ x, (S i).link = x := ⟨_, rfl⟩
  rw [hx]
  have HXX := Lib.hid hx
  clear H M hx
  go_enter Tryz.func28, Tryz.ntmps28
  go_wp2_with fail
  refine HM.out.mono ?_
  rintro e w1 ⟨rfl, hP, hX⟩
  have t2 := hP.m
  obtain ⟨c0, c1, c2, c3, c4, c5⟩ := hP.q.c
  have hs := hP.slotC 6 (by omega) h2
  rw [show (S i).gd 6 = (S i).link from rfl, HXX.out] at hs
  have HP := Lib.hid (And.intro hP hX)
  clear hP hX
  go_wp2_with fail
  refine (th_kept (v := x) HP.out.1.th (by omega)).mono ?_
  rintro e w2 ⟨rfl, hT, hX⟩
  have HP2 := Lib.hid (And.intro (HP.out.1.step hT hX) (HP.out.2.trans hX.all))
  clear hT hX t2 c0 c1 c2 c3 c4 c5 hs
  go_wp2_with fail
  go_ret2
  exact ⟨rfl, HP2.out.1.mono (by omega), HP2.out.2⟩

set_option maxHeartbeats 1000000 in
theorem ref_link_err {h err fa' : Int} (H : RefP w A tb k n S hd t nx fa) (hk : k ≤ 700000) (M : DMisses A n S hd t nx fa h err fa') (he : (err != 0) = true) :
    Calls Tryz.prog 28 #[.pointer (some ⟨A.r, 0, none⟩), .pointer (some ⟨tb, 0, none⟩), .int .i64 h] w fun e w' => e = .returned (.tuple #[.int .i64 0, .int .i64 err]) ∧ RefP w' A tb (k + 9) n S hd t nx fa' ∧ Byd tb A.all w w' := by
  have HM := Lib.hid (M w tb k (by omega) H)
  clear H M
  go_enter Tryz.func28, Tryz.ntmps28
  go_wp2_with fail
  refine HM.out.mono ?_
  rintro e w1 ⟨rfl, hP, hX⟩
  have HP := Lib.hid (And.intro hP hX)
  clear hP hX
  go_wp2_with fail
  go_ret2
  exact ⟨rfl, HP.out.1.mono (by omega), HP.out.2⟩

set_option maxHeartbeats 1000000 in
theorem ref_cas_err {h err fa' old x : Int} (H : RefP w A tb k n S hd t nx fa) (hk : k ≤ 700000) (M : DMisses A n S hd t nx fa h err fa') (he : (err != 0) = true) :
    Calls Tryz.prog 26 #[.pointer (some ⟨A.r, 0, none⟩), .pointer (some ⟨tb, 0, none⟩), .int .i64 h, .int .i64 old, .int .i64 x] w fun e w' => e = .returned (.tuple #[.bool false, .int .i64 err]) ∧ RefP w' A tb (k + 9) n S hd t nx fa' ∧ Byd tb A.all w w' := by
  have HM := Lib.hid (M w tb k (by omega) H)
  clear H M
  go_enter Tryz.func26, Tryz.ntmps26
  go_wp2_with fail
  refine HM.out.mono ?_
  rintro e w1 ⟨rfl, hP, hX⟩
  have HP := Lib.hid (And.intro hP hX)
  clear hP hX
  go_wp2_with fail
  go_ret2
  exact ⟨rfl, HP.out.1.mono (by omega), HP.out.2⟩

set_option maxHeartbeats 1000000 in
theorem ref_swaplink_err {h err fa' x : Int} (H : RefP w A tb k n S hd t nx fa) (hk : k ≤ 700000) (M : DMisses A n S hd t nx fa h err fa') (he : (err != 0) = true) :
    Calls Tryz.prog 30 #[.pointer (some ⟨A.r, 0, none⟩), .pointer (some ⟨tb, 0, none⟩), .int .i64 h, .int .i64 x] w fun e w' => e = .returned (.tuple #[.int .i64 0, .int .i64 err]) ∧ RefP w' A tb (k + 9) n S hd t nx fa' ∧ Byd tb A.all w w' := by
  have HM := Lib.hid (M w tb k (by omega) H)
  clear H M
  go_enter Tryz.func30, Tryz.ntmps30
  go_wp2_with fail
  refine HM.out.mono ?_
  rintro e w1 ⟨rfl, hP, hX⟩
  have HP := Lib.hid (And.intro hP hX)
  clear hP hX
  go_wp2_with fail
  go_ret2
  exact ⟨rfl, HP.out.1.mono (by omega), HP.out.2⟩

theorem RefP.marked {i : Nat} (H : RefP w A tb k n S hd t nx fa) (x : Int) (hw : w.setCell ⟨A.sb, i * 7 + 5, none⟩ (.int .i64 x) = w') : RefP w' A tb k n (upS S i { S i with mark := x }) hd t nx fa ∧ Byd tb A.all w w' := by
  have hr := H.q.row.putD i 5 x { S i with mark := x } (by omega) rfl (by intro l hl hn; match l, hl, hn with | 0, _, _ => rfl | 1, _, _ => rfl | 2, _, _ => rfl | 3, _, _ => rfl | 4, _, _ => rfl | 6, _, _ => rfl) hw
  have o : Only [A.sb] w w' := hw ▸ Only.setCell _ (by simp) _
  exact ⟨H.slots hr (fun j => by unfold upS; split <;> simp_all) o (Nat.le_refl _), Byd.slots H o (by simp [RP.all])⟩

theorem RefP.linked {i : Nat} (H : RefP w A tb k n S hd t nx fa) (x : Int) (hw : w.setCell ⟨A.sb, i * 7 + 6, none⟩ (.int .i64 x) = w') : RefP w' A tb k n (upS S i { S i with link := x }) hd t nx fa ∧ Byd tb A.all w w' := by
  have hr := H.q.row.putD i 6 x { S i with link := x } (by omega) rfl (by intro l hl hn; match l, hl, hn with | 0, _, _ => rfl | 1, _, _ => rfl | 2, _, _ => rfl | 3, _, _ => rfl | 4, _, _ => rfl | 5, _, _ => rfl | l + 6, hl, hn => exact absurd (by omega) hn) hw
  have o : Only [A.sb] w w' := hw ▸ Only.setCell _ (by simp) _
  exact ⟨H.slots hr (fun j => by unfold upS; split <;> simp_all) o (Nat.le_refl _), Byd.slots H o (by simp [RP.all])⟩

set_option maxHeartbeats 1000000 in
theorem ref_swaplink {h x : Int} {i : Nat} (H : RefP w A tb k n S hd t nx fa) (hk : k ≤ 700000) (h2 : i ≤ n) (M : DMeets A n S hd t nx fa h i) :
    Calls Tryz.prog 30 #[.pointer (some ⟨A.r, 0, none⟩), .pointer (some ⟨tb, 0, none⟩), .int .i64 h, .int .i64 x] w fun e w' => e = .returned (.tuple #[.int .i64 (S i).link, .int .i64 0]) ∧ RefP w' A tb (k + 9) n (upS S i { S i with link := x }) hd t nx fa ∧ Byd tb A.all w w' := by
  have hm := H.q.q.many
  have HM := Lib.hid (M w tb k (by omega) H)
  obtain ⟨y, hy⟩ : ∃ y, (S i).link = y := ⟨_, rfl⟩
  rw [hy]
  have HXX := Lib.hid hy
  clear H M hy
  go_enter Tryz.func30, Tryz.ntmps30
  go_wp2_with fail
  refine HM.out.mono ?_
  rintro e w1 ⟨rfl, hP, hX⟩
  have t2 := hP.m
  obtain ⟨c0, c1, c2, c3, c4, c5⟩ := hP.q.c
  have hs := hP.slotC 6 (by omega) h2
  rw [show (S i).gd 6 = (S i).link from rfl, HXX.out] at hs
  have HP := Lib.hid (And.intro hP hX)
  clear hP hX
  go_wp2_with fail
  refine (th_kept (v := y) HP.out.1.th (by omega)).mono ?_
  rintro e w2 ⟨rfl, hT, hX⟩
  have HP2 := Lib.hid (And.intro (HP.out.1.step hT hX) (HP.out.2.trans hX.all))
  clear hT hX t2 c0 c1 c2 c3 c4 c5 hs
  go_wp2_with fail
  refine (th_fresh HP2.out.1.th (by omega)).mono ?_
  rintro e w3 ⟨rfl, hT, hX⟩
  have hP3 := HP2.out.1.step hT hX
  obtain ⟨c0, c1, c2, c3, c4, c5⟩ := hP3.q.c
  have hs := hP3.slotC 6 (by omega) h2
  have hf := hP3.q.row.free (i * 7 + 6)
  have HP3 := Lib.hid (And.intro hP3 (HP2.out.2.trans hX.all))
  clear hP3 hT hX
  go_wp2_with fail
  obtain ⟨w4, hw4⟩ : ∃ w4, w3.setCell ⟨A.sb, i * 7 + 6, none⟩ (.int .i64 x) = w4 := ⟨_, rfl⟩
  rw [hw4]
  have h4 := HP3.out.1.linked x hw4
  go_ret2
  exact ⟨rfl, h4.1.mono (by omega), HP3.out.2.trans h4.2⟩

set_option maxHeartbeats 1000000 in
theorem ref_cas_hit {h x : Int} {i : Nat} (H : RefP w A tb k n S hd t nx fa) (hk : k ≤ 700000) (h2 : i ≤ n) (M : DMeets A n S hd t nx fa h i) :
    Calls Tryz.prog 26 #[.pointer (some ⟨A.r, 0, none⟩), .pointer (some ⟨tb, 0, none⟩), .int .i64 h, .int .i64 (S i).mark, .int .i64 x] w fun e w' => e = .returned (.tuple #[.bool true, .int .i64 0]) ∧ RefP w' A tb (k + 9) n (upS S i { S i with mark := x }) hd t nx fa ∧ Byd tb A.all w w' := by
  have hm := H.q.q.many
  have HM := Lib.hid (M w tb k (by omega) H)
  obtain ⟨y, hy⟩ : ∃ y, (S i).mark = y := ⟨_, rfl⟩
  rw [hy]
  have HXX := Lib.hid hy
  clear H M hy
  have hyy : (y == y) = true := by simp
  go_enter Tryz.func26, Tryz.ntmps26
  go_wp2_with fail
  refine HM.out.mono ?_
  rintro e w1 ⟨rfl, hP, hX⟩
  have t2 := hP.m
  obtain ⟨c0, c1, c2, c3, c4, c5⟩ := hP.q.c
  have hs := hP.slotC 5 (by omega) h2
  rw [show (S i).gd 5 = (S i).mark from rfl, HXX.out] at hs
  have HP := Lib.hid (And.intro hP hX)
  clear hP hX
  go_wp2_with fail
  refine (th_kept (v := y) HP.out.1.th (by omega)).mono ?_
  rintro e w2 ⟨rfl, hT, hX⟩
  have HP2 := Lib.hid (And.intro (HP.out.1.step hT hX) (HP.out.2.trans hX.all))
  clear hT hX t2 c0 c1 c2 c3 c4 c5 hs
  go_wp2_with fail
  refine (th_fresh HP2.out.1.th (by omega)).mono ?_
  rintro e w3 ⟨rfl, hT, hX⟩
  have hP3 := HP2.out.1.step hT hX
  obtain ⟨c0, c1, c2, c3, c4, c5⟩ := hP3.q.c
  have hs := hP3.slotC 5 (by omega) h2
  have hf := hP3.q.row.free (i * 7 + 5)
  have HP3 := Lib.hid (And.intro hP3 (HP2.out.2.trans hX.all))
  clear hP3 hT hX
  go_wp2_with fail
  obtain ⟨w4, hw4⟩ : ∃ w4, w3.setCell ⟨A.sb, i * 7 + 5, none⟩ (.int .i64 x) = w4 := ⟨_, rfl⟩
  rw [hw4]
  have h4 := HP3.out.1.marked x hw4
  go_ret2
  exact ⟨rfl, h4.1.mono (by omega), HP3.out.2.trans h4.2⟩

set_option maxHeartbeats 1000000 in
theorem ref_cas_miss {h old x : Int} {i : Nat} (H : RefP w A tb k n S hd t nx fa) (hk : k ≤ 700000) (h2 : i ≤ n) (M : DMeets A n S hd t nx fa h i) (ho : ¬ (S i).mark = old) :
    Calls Tryz.prog 26 #[.pointer (some ⟨A.r, 0, none⟩), .pointer (some ⟨tb, 0, none⟩), .int .i64 h, .int .i64 old, .int .i64 x] w fun e w' => e = .returned (.tuple #[.bool false, .int .i64 0]) ∧ RefP w' A tb (k + 9) n S hd t nx fa ∧ Byd tb A.all w w' := by
  have hm := H.q.q.many
  have HM := Lib.hid (M w tb k (by omega) H)
  obtain ⟨y, hy⟩ : ∃ y, (S i).mark = y := ⟨_, rfl⟩
  rw [hy] at ho
  have HXX := Lib.hid hy
  clear H M hy
  have hyy : (y == old) = false := by simpa using ho
  clear ho
  go_enter Tryz.func26, Tryz.ntmps26
  go_wp2_with fail
  refine HM.out.mono ?_
  rintro e w1 ⟨rfl, hP, hX⟩
  have t2 := hP.m
  obtain ⟨c0, c1, c2, c3, c4, c5⟩ := hP.q.c
  have hs := hP.slotC 5 (by omega) h2
  rw [show (S i).gd 5 = (S i).mark from rfl, HXX.out] at hs
  have HP := Lib.hid (And.intro hP hX)
  clear hP hX
  go_wp2_with fail
  refine (th_kept (v := y) HP.out.1.th (by omega)).mono ?_
  rintro e w2 ⟨rfl, hT, hX⟩
  have HP2 := Lib.hid (And.intro (HP.out.1.step hT hX) (HP.out.2.trans hX.all))
  clear hT hX t2 c0 c1 c2 c3 c4 c5 hs
  go_wp2_with fail
  refine (th_fresh HP2.out.1.th (by omega)).mono ?_
  rintro e w3 ⟨rfl, hT, hX⟩
  have HP3 := Lib.hid (And.intro (HP2.out.1.step hT hX) (HP2.out.2.trans hX.all))
  clear hT hX
  go_wp2_with fail
  go_ret2
  exact ⟨rfl, HP3.out.1.mono (by omega), HP3.out.2⟩

end

end Go.Proofs.YtpknnamficegbaaGreatDoor

