/- The document's words, as calls: Index, Tag, Pack, Next. Conditions: the index from 0 to 1048575, the tag from 0 to 1099511627775, where a contract says so. · The document's worker that does all its lines at once: goes, told, Line, Load, Store, Cas, Fresh, Kept as calls. Conditions: the worker and the words stand in memory as ThAt and MemAt say. · The document's pile of places, whatever is linked in it: Pop, Push, Head as calls. Conditions: the words stand in memory as MemAt says. -/
import Derived.Test.YtpknnamficegbaaGreatDoorCWord
import Derived.Test.YtpknnamficegbaaGreatDoorCHelp
import Derived.Test.YtpknnamficegbaaGreatDoorCRawX
set_option linter.unusedVariables false
set_option linter.unusedSimpArgs false
set_option linter.unusedSectionVars false
set_option linter.unnecessarySimpa false
namespace Go.Proofs.YtpknnamficegbaaGreatDoor
open Go.RowKit

set_option maxHeartbeats 400000 in
theorem ref_is_word (x : Int) (w : World) : Calls Tryz.prog 120 #[.int .i64 x] w fun e w' => e = .returned (.bool (decide (0 ≤ x ∧ x ≤ 1152921504606846975))) ∧ w = w' := by
  by_cases h0 : 0 ≤ x
  · by_cases h1 : x ≤ 1152921504606846975
    · have h2 : decide (x < 1152921504606846976) = true := by simp; omega
      go_enter Tryz.func120, Tryz.ntmps120
      go_wp2
      go_ret
      exact ⟨by simp <;> omega, rfl⟩
    · have h2 : decide (x < 1152921504606846976) = false := by simp; omega
      go_enter Tryz.func120, Tryz.ntmps120
      go_wp2
      go_ret
      exact ⟨by simp <;> omega, rfl⟩
  · go_enter Tryz.func120, Tryz.ntmps120
    go_wp2
    go_ret
    exact ⟨by simp <;> omega, rfl⟩

set_option maxHeartbeats 400000 in
theorem ref_idx (h : Int) (w : World) : Calls Tryz.prog 116 #[.int .i64 h] w fun e w' => e = .returned (.int .i64 (idxOf h)) ∧ w = w' := by
  by_cases hh : 0 ≤ h ∧ h ≤ 1152921504606846975
  · have e1 : idxOf h = h / 1099511627776 := if_pos hh
    have e2 : h.tdiv 1099511627776 = h / 1099511627776 := Int.tdiv_eq_ediv_of_nonneg hh.1
    have HW := Lib.hid (fun w => ref_is_word h w)
    rw [decide_eq_true hh] at HW
    rw [e1]
    go_enter Tryz.func116, Tryz.ntmps116
    go_wp2_with fail
    refine (HW.out _).mono ?_
    rintro e w' ⟨rfl, rfl⟩
    go_wp2_with fail
    go_ret
    exact ⟨rfl, rfl⟩
  · have e1 : idxOf h = 0 := if_neg hh
    have HW := Lib.hid (fun w => ref_is_word h w)
    rw [decide_eq_false hh] at HW
    rw [e1]
    go_enter Tryz.func116, Tryz.ntmps116
    go_wp2_with fail
    refine (HW.out _).mono ?_
    rintro e w' ⟨rfl, rfl⟩
    go_wp2_with fail
    go_ret
    exact ⟨rfl, rfl⟩

set_option maxHeartbeats 400000 in
theorem ref_tg (h : Int) (w : World) : Calls Tryz.prog 80 #[.int .i64 h] w fun e w' => e = .returned (.int .i64 (tagOf h)) ∧ w = w' := by
  by_cases hh : 0 ≤ h ∧ h ≤ 1152921504606846975
  · have e1 : tagOf h = h % 1099511627776 := if_pos hh
    have e2 : h.tmod 1099511627776 = h % 1099511627776 := Int.tmod_eq_emod_of_nonneg hh.1
    have HW := Lib.hid (fun w => ref_is_word h w)
    rw [decide_eq_true hh] at HW
    rw [e1]
    go_enter Tryz.func80, Tryz.ntmps80
    go_wp2_with fail
    refine (HW.out _).mono ?_
    rintro e w' ⟨rfl, rfl⟩
    go_wp2_with fail
    go_ret
    exact ⟨rfl, rfl⟩
  · have e1 : tagOf h = 0 := if_neg hh
    have HW := Lib.hid (fun w => ref_is_word h w)
    rw [decide_eq_false hh] at HW
    rw [e1]
    go_enter Tryz.func80, Tryz.ntmps80
    go_wp2_with fail
    refine (HW.out _).mono ?_
    rintro e w' ⟨rfl, rfl⟩
    go_wp2_with fail
    go_ret
    exact ⟨rfl, rfl⟩

set_option maxHeartbeats 400000 in
theorem ref_pack (x t : Int) (w : World) (h0 : 0 ≤ x) (h1 : x ≤ 1048575) (t0 : 0 ≤ t) (t1 : t ≤ 1099511627775) :
    Calls Tryz.prog 75 #[.int .i64 x, .int .i64 t] w fun e w' => e = .returned (.tuple #[.int .i64 (wd x t), .int .i64 0]) ∧ w = w' := by
  have hw1 : IntKind.i64.wrap (x * 1099511627776) = x * 1099511627776 := IntWalk.i64_in _ ⟨by omega, by omega⟩
  have hw2 : IntKind.i64.wrap (x * 1099511627776 + t) = x * 1099511627776 + t := IntWalk.i64_in _ ⟨by omega, by omega⟩
  unfold wd
  go_enter Tryz.func75, Tryz.ntmps75
  go_wp2_with fail
  go_ret2
  exact ⟨rfl, rfl⟩

set_option maxHeartbeats 400000 in
theorem ref_next (x i : Int) (w : World) (h0 : 0 ≤ x) (h1 : x ≤ 1152921504606846975) (i0 : 0 ≤ i) (i1 : i ≤ 1048575) :
    Calls Tryz.prog 117 #[.int .i64 x, .int .i64 i] w fun e w' => e = .returned (.tuple #[.int .i64 (wd i ((x % 1099511627776 + 1) % 1099511627776)), .int .i64 0]) ∧ w = w' := by
  have HW := Lib.hid (fun w => ref_is_word x w)
  rw [decide_eq_true ⟨h0, h1⟩] at HW
  have HT := Lib.hid (fun w => ref_tg x w)
  rw [show tagOf x = x % 1099511627776 from if_pos ⟨h0, h1⟩] at HT
  obtain ⟨g, hg⟩ : ∃ g, x % 1099511627776 = g := ⟨_, rfl⟩
  rw [hg] at HT ⊢
  have hg0 : 0 ≤ g := by omega
  have hg1 : g ≤ 1099511627775 := by omega
  have hw1 : IntKind.i64.wrap (g + 1) = g + 1 := IntWalk.i64_in _ ⟨by omega, by omega⟩
  have e2 : (g + 1).tmod 1099511627776 = (g + 1) % 1099511627776 := Int.tmod_eq_emod_of_nonneg (by omega)
  obtain ⟨q, hq⟩ : ∃ q, (g + 1) % 1099511627776 = q := ⟨_, rfl⟩
  rw [hq] at e2 ⊢
  have HP := Lib.hid (fun w => ref_pack i q w i0 i1 (by omega) (by omega))
  have hw2 : IntKind.i64.wrap q = q := IntWalk.i64_in _ ⟨by omega, by omega⟩
  clear hg hq
  go_enter Tryz.func117, Tryz.ntmps117
  go_wp2_with fail
  refine (HW.out _).mono ?_
  rintro e w' ⟨rfl, rfl⟩
  go_wp2_with fail
  refine (HT.out _).mono ?_
  rintro e w' ⟨rfl, rfl⟩
  go_wp2_with fail
  refine (HP.out _).mono ?_
  rintro e w' ⟨rfl, rfl⟩
  go_wp2_with fail
  go_ret2
  exact ⟨rfl, rfl⟩

end Go.Proofs.YtpknnamficegbaaGreatDoor

namespace Go.Proofs.YtpknnamficegbaaGreatDoor
open Go.RowKit

/-- The block of the worker's own row. -/
def logB (w : World) (tb : Nat) : Option Nat := (w.cell? ⟨tb, 4, none⟩).bind Value.ownBlock

theorem logB_only {L : List Nat} {w w' : World} {tb : Nat} (h : Only L w w') (hl : tb < w.heap.size) (hL : tb ∉ L) : logB w' tb = logB w tb := by
  unfold logB
  rw [h.cell hl hL]

/-- What may have turned: the worker's block, its row's block, those of the list. -/
structure Byd (tb : Nat) (S : List Nat) (w w' : World) : Prop where
  os : w'.os = w.os
  tape : w'.tape = w.tape
  output : w'.output = w.output
  size : w.heap.size ≤ w'.heap.size
  low : tb ≤ w.heap.size
  keep : ∀ k, k < w.heap.size → k ∉ S → k ≠ tb → (logB w tb = some k → k < tb) → w'.heap[k]? = w.heap[k]?
  log : ∀ k, k < w.heap.size → logB w' tb = some k → logB w tb = some k

theorem Byd.block {tb : Nat} {S : List Nat} {w w' : World} (h : Byd tb S w w') (k : Nat) (hk : k < tb) (hn : k ∉ S) : w'.heap[k]? = w.heap[k]? :=
  h.keep k (Nat.lt_of_lt_of_le hk h.low) hn (by omega) (fun _ => hk)

theorem Byd.refl {tb : Nat} (S : List Nat) {w : World} (h : tb ≤ w.heap.size) : Byd tb S w w := ⟨rfl, rfl, rfl, Nat.le_refl _, h, fun _ _ _ _ _ => rfl, fun _ _ h => h⟩

theorem Byd.trans {tb : Nat} {S : List Nat} {a b c : World} (h : Byd tb S a b) (k : Byd tb S b c) : Byd tb S a c :=
  ⟨k.os.trans h.os, k.tape.trans h.tape, k.output.trans h.output, Nat.le_trans h.size k.size, h.low,
    fun i hi hn ht hg => (k.keep i (Nat.lt_of_lt_of_le hi h.size) hn ht (fun e => hg (h.log i hi e))).trans (h.keep i hi hn ht hg),
    fun i hi e => h.log i hi (k.log i (Nat.lt_of_lt_of_le hi h.size) e)⟩

theorem Byd.mono {tb : Nat} {S T : List Nat} {w w' : World} (h : Byd tb S w w') (hs : ∀ k, k ∈ S → k ∈ T) : Byd tb T w w' :=
  ⟨h.os, h.tape, h.output, h.size, h.low, fun i hi hn => h.keep i hi (fun hm => hn (hs i hm)), h.log⟩

theorem Byd.of {tb : Nat} {L S : List Nat} {w w' : World} (h : Only L w w') (hl : tb < w.heap.size) (hL : ∀ b, b ∈ L → b ∈ S ∧ b ≠ tb) : Byd tb S w w' :=
  ⟨h.os, h.tape, h.output, h.size, Nat.le_of_lt hl, fun i hi hn _ _ => h.block i hi (fun hm => hn (hL i hm).1), fun i _ e => by rw [← logB_only h hl (fun hm => (hL _ hm).2 rfl)]; exact e⟩

/-- Behind a step of the worker's own. -/
theorem Byd.own {tb : Nat} {L : List Nat} {w w' : World} (h : Only L w w') (hl : tb < w.heap.size) (hL : ∀ b, b ∈ L → b = tb ∨ (logB w tb = some b ∧ tb ≤ b)) (hg : ∀ k, k < w.heap.size → logB w' tb = some k → logB w tb = some k) : Byd tb [] w w' :=
  ⟨h.os, h.tape, h.output, h.size, Nat.le_of_lt hl, fun i hi _ ht hk => h.block i hi (fun hm => by rcases hL i hm with e | ⟨e, f⟩; exact ht e; have := hk e; omega), hg⟩

theorem Byd.only {tb : Nat} {S : List Nat} {w w' : World} (h : Byd tb S w w') : Only (S ++ List.range' tb (w.heap.size - tb)) w w' :=
  ⟨h.os, h.tape, h.output, h.size, fun i hi hn => by
    simp only [List.mem_append, not_or] at hn
    refine h.block i ?_ hn.1
    by_cases hlt : i < tb
    · exact hlt
    · exact absurd (List.mem_range'.2 ⟨i - tb, by omega, by omega⟩) hn.2⟩

theorem Byd.out {tb : Nat} {S : List Nat} {w w' : World} (h : Byd tb S w w') (hs : w.heap.size ≤ tb) : Only S w w' := ⟨h.os, h.tape, h.output, h.size, fun i hi hn => h.block i (by omega) hn⟩

/-- A block that is not the worker's: it stays, whatever the worker does. -/
def NotTh (w : World) (tb b : Nat) : Prop := b ≠ tb ∧ logB w tb ≠ some b

theorem Byd.blk {tb b : Nat} {S : List Nat} {w w' : World} {vs : Array Value} {T : TypeId} (h : Byd tb S w w') (hB : Blk w b vs T) (hn : b ∉ S) (ho : NotTh w tb b) : Blk w' b vs T ∧ NotTh w' tb b := by
  have hl := hB.lt
  exact ⟨(h.keep b hl hn ho.1 (fun e => absurd e ho.2)).trans hB, ho.1, fun e => ho.2 (h.log b hl e)⟩

theorem Byd.not_th {tb b : Nat} {S : List Nat} {w w' : World} (h : Byd tb S w w') (hb : b < w.heap.size) (ho : NotTh w tb b) : NotTh w' tb b := ⟨ho.1, fun e => ho.2 (h.log b hb e)⟩

theorem Byd.not_in {tb b : Nat} {S : List Nat} {n : Nat} (h1 : b < tb) (h2 : b ∉ S) : b ∉ S ++ List.range' tb n := by
  simp only [List.mem_append, not_or]
  refine ⟨h2, fun hm => ?_⟩
  obtain ⟨j, _, rfl⟩ := List.mem_range'.1 hm
  omega

/-- The block holds, from its start on, N numbers: the j-th is f j. -/
def RowC (w : World) (b N : Nat) (f : Nat → Int) (T : TypeId) : Prop :=
  ∃ c : Array Value, w.heap[b]? = some (.cells c T (0, 0)) ∧ N ≤ c.size ∧ ∀ j, j < N → c[j]? = some (.int .i64 (f j))

theorem RowC.lt {w : World} {b N : Nat} {f : Nat → Int} {T : TypeId} (h : RowC w b N f T) : b < w.heap.size := by
  obtain ⟨c, hc, _⟩ := h
  exact (Array.getElem?_eq_some_iff.1 hc).1

theorem RowC.cell {w : World} {b N : Nat} {f : Nat → Int} {T : TypeId} (h : RowC w b N f T) {j : Nat} (hj : j < N) : w.cell? ⟨b, j, none⟩ = some (.int .i64 (f j)) := by
  obtain ⟨c, hc, _, hf⟩ := h
  simp [World.cell?, hc, hf j hj]

theorem RowC.free {w : World} {b N : Nat} {f : Nat → Int} {T : TypeId} (h : RowC w b N f T) (j : Nat) : w.frozen? ⟨b, j, none⟩ = false := by
  obtain ⟨c, hc, _⟩ := h
  simp [World.frozen?, hc]

theorem RowC.set {w : World} {b N : Nat} {f : Nat → Int} {T : TypeId} (h : RowC w b N f T) (k : Nat) (x : Int) : RowC (w.setCell ⟨b, k, none⟩ (.int .i64 x)) b N (upd f k x) T := by
  obtain ⟨c, hc, hs, hf⟩ := h
  refine ⟨c.setIfInBounds k (.int .i64 x), ?_, by simp [hs], ?_⟩
  · simp [World.setCell, Array.getElem?_modify, hc]
  · intro j hj
    rw [Array.getElem?_setIfInBounds]
    by_cases hk : k = j
    · subst hk
      rw [if_pos rfl, if_pos (by omega)]
      simp [upd]
    · rw [if_neg hk, hf j hj]
      simp [upd, show j ≠ k by omega]

theorem RowC.only {S : List Nat} {w w' : World} {b N : Nat} {f : Nat → Int} {T : TypeId} (h : RowC w b N f T) (o : Only S w w') (hn : b ∉ S) : RowC w' b N f T := by
  have hl := h.lt
  obtain ⟨c, hc, hs, hf⟩ := h
  exact ⟨c, by rw [o.block b hl hn]; exact hc, hs, hf⟩

theorem RowC.congr {w : World} {b N : Nat} {f g : Nat → Int} {T : TypeId} (h : RowC w b N f T) (e : ∀ j, j < N → f j = g j) : RowC w b N g T := by
  obtain ⟨c, hc, hs, hf⟩ := h
  exact ⟨c, hc, hs, fun j hj => by rw [hf j hj, e j hj]⟩

/-- The document's words. -/
structure MemAt (w : World) (mb wb N cap : Nat) (f : Nat → Int) : Prop where
  head : Blk w mb #[.slice (some ⟨wb, 0, none⟩) N cap] 126
  row : RowC w wb N f 3
  fits : N ≤ cap
  apart : mb ≠ wb

theorem MemAt.only {S : List Nat} {w w' : World} {mb wb N cap : Nat} {f : Nat → Int} (h : MemAt w mb wb N cap f) (o : Only S w w') (h1 : mb ∉ S) (h2 : wb ∉ S) : MemAt w' mb wb N cap f := ⟨h.head.only o h1, h.row.only o h2, h.fits, h.apart⟩

theorem MemAt.byd {tb : Nat} {S : List Nat} {w w' : World} {mb wb N cap : Nat} {f : Nat → Int} (h : MemAt w mb wb N cap f) (o : Byd tb S w w') (h1 : mb < tb) (h2 : wb < tb) (n1 : mb ∉ S) (n2 : wb ∉ S) : MemAt w' mb wb N cap f := h.only o.only (Byd.not_in h1 n1) (Byd.not_in h2 n2)

theorem MemAt.set {w : World} {mb wb N cap : Nat} {f : Nat → Int} (h : MemAt w mb wb N cap f) (k : Nat) (x : Int) : MemAt (w.setCell ⟨wb, k, none⟩ (.int .i64 x)) mb wb N cap (upd f k x) := ⟨h.head.set_other h.apart _, h.row.set k x, h.fits, h.apart⟩

/-- A worker that does all its lines at once; k bounds what it has done. -/
def ThAt (w : World) (tb mb k : Nat) : Prop :=
  ∃ (own : Int) (log : Value) (L : List Value) (left : Int), Blk w tb #[.pointer (some ⟨mb, 0, none⟩), .int .i64 0, .bool false, .int .i64 own, log, .int .i64 (L.length : Nat), .int .i64 left] 133 ∧
    w.ownsRow (tb + 1) 3 1 log L.length L ∧ 0 ≤ own ∧ own ≤ k ∧ L.length ≤ k ∧ 4611686018427387904 - (k : Int) ≤ left ∧ left ≤ 4611686018427387904

theorem ThAt.lt {w : World} {tb mb k : Nat} (h : ThAt w tb mb k) : tb < w.heap.size := by
  obtain ⟨_, _, _, _, hB, _⟩ := h
  exact hB.lt

theorem ThAt.only {S : List Nat} {w w' : World} {tb mb k : Nat} (h : ThAt w tb mb k) (o : Only S w w') (hS : ∀ b, b ∈ S → b < tb) : ThAt w' tb mb k := by
  obtain ⟨own, log, L, left, hB, hO, hr⟩ := h
  exact ⟨own, log, L, left, hB.only o (fun hm => by have := hS _ hm; omega), ownsRow_only hO o (fun b hb hm => by have := (hO.lt b hb).1; have := hS _ hm; omega), hr⟩

theorem ThAt.mono {w : World} {tb mb k k' : Nat} (h : ThAt w tb mb k) (hk : k ≤ k') : ThAt w tb mb k' := by
  obtain ⟨own, log, L, left, hB, hO, h1, h2, h3, h4, h5⟩ := h
  exact ⟨own, log, L, left, hB, hO, h1, by omega, by omega, by omega, h5⟩

set_option maxHeartbeats 1000000 in
theorem th_goes {w : World} {tb mb k : Nat} (h : ThAt w tb mb k) (hk : k ≤ 1000000) :
    Calls Tryz.prog 119 #[.pointer (some ⟨tb, 0, none⟩)] w fun e w' => e = .returned (.tuple #[.int .i64 0, .bool false, .bool true]) ∧ ThAt w' tb mb (k + 1) ∧ Byd tb [] w w' := by
  obtain ⟨own, log, L, left, hB, hO, h1, h2, h3, h4, h5⟩ := h
  obtain ⟨ad, cap, rfl⟩ := own_slice_any hO
  have HO := Lib.hid hO
  have HB := Lib.hid hB
  have c2 := hB.cell 2 rfl
  have c3 := hB.cell 3 rfl
  have c4 := hB.cell 4 rfl
  have c5 := hB.cell 5 rfl
  have c6 := hB.cell 6 rfl
  have f3 := hB.free 3
  have f6 := hB.free 6
  obtain ⟨ll, hll⟩ : ∃ q, L.length = q := ⟨_, rfl⟩
  rw [hll] at c4 c5
  have HL := Lib.hid hll
  have e1 : (left == 0) = false := by simp; omega
  have hw1 : IntKind.i64.wrap (left - 1) = left - 1 := IntWalk.i64_in _ ⟨by omega, by omega⟩
  have hw2 : IntKind.i64.wrap (own + 1) = own + 1 := IntWalk.i64_in _ ⟨by omega, by omega⟩
  have HF : Hid (∀ W0, Only [] w W0 → ThAt ((W0.setCell ⟨tb, 6, none⟩ (.int .i64 (left - 1))).setCell ⟨tb, 3, none⟩ (.int .i64 (own + 1))) tb mb (k + 1) ∧ Byd tb [] w ((W0.setCell ⟨tb, 6, none⟩ (.int .i64 (left - 1))).setCell ⟨tb, 3, none⟩ (.int .i64 (own + 1)))) := by
    refine Lib.hid (fun W0 o0 => ?_)
    have o : Only [tb] w ((W0.setCell ⟨tb, 6, none⟩ (.int .i64 (left - 1))).setCell ⟨tb, 3, none⟩ (.int .i64 (own + 1))) := ((o0.mono (by simp)).trans (Only.setCell _ (by simp) _)).trans (Only.setCell _ (by simp) _)
    have hlt := HB.out.lt
    refine ⟨⟨own + 1, _, L, left - 1, ((HB.out.only o0 (by simp)).set_same 6 _).set_same 3 _, ownsRow_only HO.out o (fun b hb => by have := (HO.out.lt b hb).1; simp; omega), by omega, by omega, by omega, by omega, by omega⟩, Byd.own o (by omega) (fun b hb => by simp at hb; exact Or.inl hb) (fun b _ e => ?_)⟩
    have e0 : logB w tb = (Value.slice ad L.length cap).ownBlock := by unfold logB; rw [HB.out.cell 4 rfl]; rfl
    have e1 := (((HB.out.only o0 (by simp)).set_same 6 (.int .i64 (left - 1))).set_same 3 (.int .i64 (own + 1))).cell 4 rfl
    rw [e0, ← e]
    unfold logB
    rw [e1]
    rfl
  clear hO hB hll h1 h2 h3 h4 h5
  go_enter Tryz.func119, Tryz.ntmps119
  go_wp2_with fail
  go_quiet (fail)
  go_wp2_with fail
  go_ret3
  exact ⟨rfl, HF.out _ (Only.drewN [] _ _)⟩

set_option maxHeartbeats 1000000 in
theorem th_told {w : World} {tb mb k : Nat} {v : Int} (h : ThAt w tb mb k) (hk : k ≤ 1000000) :
    Calls Tryz.prog 118 #[.pointer (some ⟨tb, 0, none⟩), .int .i64 v] w fun e w' => e = .returned (.int .i64 v) ∧ ThAt w' tb mb (k + 1) ∧ Byd tb [] w w' := by
  obtain ⟨own, log, L, left, hB, hO, h1, h2, h3, h4, h5⟩ := h
  obtain ⟨ad, cap, rfl⟩ := own_slice_any hO
  obtain ⟨i0, hi0, hz0, hz1, hz2⟩ := info_parts info_int
  have HO := Lib.hid hO
  have HB := Lib.hid hB
  have c4 := hB.cell 4 rfl
  have hlt := hB.lt
  obtain ⟨ll, hll⟩ : ∃ q, L.length = q := ⟨_, rfl⟩
  rw [hll] at c4
  have HL := Lib.hid hll
  rw [hll] at h3
  clear hO hll
  go_enter Tryz.func118, Tryz.ntmps118
  clear hB
  go_upto_region 2 with (at_builtin; refine wpList_append_any (by rfl) (.tmp 9) (.tmp 11) 29 (by rfl) (tb + 1) 3 i0 _ 1 8 Tryz.underlying29 hi0 hz0 hz1 hz2 rfl (by decide) _ ll L rfl (by rw [← HL.out]; exact HO.out.alloc _) (some ⟨w.heap.size, 0, none⟩) 1 1 [.int .i64 v] rfl rfl (fun e => by cases e) (fun ad e => by cases e; exact cell_one_new _ _ _) (fun u hu => by simp at hu; subst hu; rfl) (by unfold maxLen; omega) (by omega) (by simp; omega) ?_)
  intro v1 w1 hown1 hX1 hat1
  have hX : Only (Value.slice ad ll cap).ownBlock.toList w w1 := (Only.alloc _ w _).trans hX1
  have hbn : ∀ b, b ∈ (Value.slice ad ll cap).ownBlock.toList → tb + 1 ≤ b := fun b hb => (HO.out.lt b (by rw [HL.out]; simpa using hb)).1
  have hB1 := HB.out.only hX (fun hm => by have := hbn _ hm; omega)
  obtain ⟨ad1, cap1, rfl⟩ := own_slice_any hown1
  have c4 : w1.cell? ⟨tb, 4, none⟩ = some (.slice ad ll cap) := by have := hB1.cell 4 rfl; rw [HL.out] at this; exact this
  have c5 : w1.cell? ⟨tb, 5, none⟩ = some (.int .i64 (ll : Nat)) := by have := hB1.cell 5 rfl; rw [HL.out] at this; exact this
  have f4 := hB1.free 4
  have f5 := hB1.free 5
  have hw1 : IntKind.i64.wrap ((ll : Int) + 1) = (ll : Int) + 1 := IntWalk.i64_in _ ⟨by omega, by omega⟩
  have HF : Hid (ThAt ((w1.setCell ⟨tb, 4, none⟩ (.slice ad1 (ll + 1) cap1)).setCell ⟨tb, 5, none⟩ (.int .i64 ((ll : Int) + 1))) tb mb (k + 1) ∧ Byd tb [] w ((w1.setCell ⟨tb, 4, none⟩ (.slice ad1 (ll + 1) cap1)).setCell ⟨tb, 5, none⟩ (.int .i64 ((ll : Int) + 1)))) := by
    have o : Only [tb] w1 ((w1.setCell ⟨tb, 4, none⟩ (.slice ad1 (ll + 1) cap1)).setCell ⟨tb, 5, none⟩ (.int .i64 ((ll : Int) + 1))) := (Only.setCell _ (by simp) _).trans (Only.setCell _ (by simp) _)
    have e1 : ((L ++ [Value.int .i64 v]).length : Int) = (ll : Int) + 1 := by rw [List.length_append, HL.out]; rfl
    refine Lib.hid ⟨⟨own, .slice ad1 (ll + 1) cap1, L ++ [.int .i64 v], left, ?_, ownsRow_only (by rw [List.length_append, HL.out]; exact hown1) o (fun b hb => ?_), h1, by omega, by rw [List.length_append, HL.out]; simp; omega, by omega, by omega⟩, Byd.own ((hX.mono (T := tb :: (Value.slice ad ll cap).ownBlock.toList) (by simp +contextual)).trans (o.mono (by simp))) (by omega) (fun b hb => ?_) (fun b hbl e => ?_)⟩
    · rw [e1]
      exact (hB1.set_same 4 _).set_same 5 _
    · have := (hown1.lt b hb).1
      simp
      omega
    · rcases List.mem_cons.1 hb with hb | hb
      · exact Or.inl hb
      · exact Or.inr ⟨by unfold logB; rw [HB.out.cell 4 rfl, HL.out]; simpa using hb, by have := hbn b hb; omega⟩
    · have e4 := ((hB1.set_same 4 (.slice ad1 (ll + 1) cap1)).set_same 5 (.int .i64 ((ll : Int) + 1))).cell 4 rfl
      unfold logB at e ⊢
      rw [e4] at e
      rw [HB.out.cell 4 rfl, HL.out]
      rcases hat1 b e with h | h
      · exact h
      · exact absurd h (by omega)
  clear hown1 hX1 hat1 hX hbn hB1
  go_wp2_with fail
  go_ret
  exact ⟨rfl, HF.out⟩

set_option maxHeartbeats 1000000 in
/-- Line. -/
theorem th_line {w : World} {tb mb k : Nat} (h : ThAt w tb mb k) (hk : k ≤ 900000) :
    Calls Tryz.prog 78 #[.pointer (some ⟨tb, 0, none⟩)] w fun e w' => e = .returned (.tuple #[]) ∧ ThAt w' tb mb (k + 2) ∧ Byd tb [] w w' := by
  have HG := Lib.hid (th_goes h (by omega))
  clear h
  go_enter Tryz.func78, Tryz.ntmps78
  go_wp2_with fail
  refine HG.out.mono ?_
  rintro e w1 ⟨rfl, hT1, hX1⟩
  have HT := Lib.hid (th_told (v := 0) hT1 (by omega))
  have HX1 := Lib.hid hX1
  clear hT1 hX1
  go_wp2_with fail
  refine HT.out.mono ?_
  rintro e w2 ⟨rfl, hT2, hX2⟩
  have HF := Lib.hid (And.intro hT2 (HX1.out.trans hX2))
  clear hT2 hX2
  go_wp2_with fail
  go_end0
  exact ⟨rfl, HF.out.1, HF.out.2⟩

/-- The words' cells, wherever the worker has gone. -/
theorem MemAt.cells {w : World} {mb wb N cap : Nat} {f : Nat → Int} (h : MemAt w mb wb N cap f) {a : Nat} (ha : a < N) : w.cell? ⟨mb, 0, none⟩ = some (.slice (some ⟨wb, 0, none⟩) N cap) ∧ w.cell? ⟨wb, a, none⟩ = some (.int .i64 (f a)) ∧ w.frozen? ⟨wb, a, none⟩ = false := ⟨h.head.cell 0 rfl, h.row.cell ha, h.row.free a⟩

theorem ThAt.m {w : World} {tb mb k : Nat} (h : ThAt w tb mb k) : w.cell? ⟨tb, 0, none⟩ = some (.pointer (some ⟨mb, 0, none⟩)) ∧ w.cell? ⟨tb, 2, none⟩ = some (.bool false) := by
  obtain ⟨own, log, L, left, hB, _⟩ := h
  exact ⟨hB.cell 0 rfl, hB.cell 2 rfl⟩

set_option maxHeartbeats 1000000 in
/-- Load. -/
theorem th_load {w : World} {tb mb wb N cap k a : Nat} {f : Nat → Int} (h : ThAt w tb mb k) (hk : k ≤ 900000) (M : MemAt w mb wb N cap f) (h1 : mb < tb) (h2 : wb < tb) (ha : a < N) (hN : N ≤ 100000) :
    Calls Tryz.prog 115 #[.pointer (some ⟨tb, 0, none⟩), .int .i64 (a : Nat)] w fun e w' => e = .returned (.int .i64 (f a)) ∧ ThAt w' tb mb (k + 2) ∧ Byd tb [] w w' := by
  have HG := Lib.hid (th_goes h (by omega))
  have HM := Lib.hid M
  have hfit := M.fits
  have haN : (a : Int) < (N : Int) := by omega
  obtain ⟨x, hx⟩ : ∃ x, f a = x := ⟨_, rfl⟩
  have HX := Lib.hid hx
  rw [hx]
  clear h M hx
  go_enter Tryz.func115, Tryz.ntmps115
  go_wp2_with fail
  refine HG.out.mono ?_
  rintro e w1 ⟨rfl, hT1, hX1⟩
  have HT := Lib.hid (th_told (v := x) hT1 (by omega))
  obtain ⟨t0, _⟩ := hT1.m
  obtain ⟨m0, m1, _⟩ := (HM.out.byd hX1 h1 h2 (by simp) (by simp)).cells ha
  rw [HX.out] at m1
  have HX1 := Lib.hid hX1
  clear hT1 hX1
  go_wp2_with fail
  refine HT.out.mono ?_
  rintro e w2 ⟨rfl, hT2, hX2⟩
  have HF := Lib.hid (And.intro hT2 (HX1.out.trans hX2))
  clear hT2 hX2 t0 m0 m1
  go_wp2_with fail
  go_ret
  exact ⟨rfl, HF.out.1, HF.out.2⟩

set_option maxHeartbeats 1000000 in
/-- Store. -/
theorem th_store {w : World} {tb mb wb N cap k a : Nat} {x : Int} {f : Nat → Int} (h : ThAt w tb mb k) (hk : k ≤ 900000) (M : MemAt w mb wb N cap f) (h1 : mb < tb) (h2 : wb < tb) (ha : a < N) (hN : N ≤ 100000) :
    Calls Tryz.prog 121 #[.pointer (some ⟨tb, 0, none⟩), .int .i64 (a : Nat), .int .i64 x] w fun e w' => e = .returned (.tuple #[]) ∧ ThAt w' tb mb (k + 2) ∧ MemAt w' mb wb N cap (upd f a x) ∧ Byd tb [wb] w w' := by
  have HG := Lib.hid (th_goes h (by omega))
  have HM := Lib.hid M
  have hfit := M.fits
  have haN : (a : Int) < (N : Int) := by omega
  clear h M
  go_enter Tryz.func121, Tryz.ntmps121
  go_wp2_with fail
  refine HG.out.mono ?_
  rintro e w1 ⟨rfl, hT1, hX1⟩
  have hM1 := HM.out.byd hX1 h1 h2 (by simp) (by simp)
  obtain ⟨t0, _⟩ := hT1.m
  obtain ⟨m0, m1, mf⟩ := hM1.cells ha
  have HT1 := Lib.hid hT1
  have HM1 := Lib.hid hM1
  have HX1 := Lib.hid hX1
  clear hT1 hX1 hM1
  go_upto_region 3 with fail
  have hO : Only [wb] w1 (w1.setCell ⟨wb, a, none⟩ (.int .i64 x)) := Only.setCell _ (by simp) _
  refine wp_name (fun w2 => ThAt w2 tb mb (k + 1) ∧ MemAt w2 mb wb N cap (upd f a x) ∧ Byd tb [wb] w w2) ⟨HT1.out.only hO (by simp; omega), HM1.out.set a x, (HX1.out.mono (by simp)).trans (Byd.of hO (by have := HT1.out.lt; omega) (by simp; omega))⟩ ?_
  clear t0 m0 m1 mf hO HX1 HT1 HM1
  rintro w2 ⟨hT2, hM2, hX2⟩
  have HT := Lib.hid (th_told (v := 0) hT2 (by omega))
  have HM2 := Lib.hid hM2
  have HX2 := Lib.hid hX2
  clear hT2 hM2 hX2
  go_wp2_with fail
  refine HT.out.mono ?_
  rintro e w3 ⟨rfl, hT3, hX3⟩
  have HF := Lib.hid (And.intro hT3 (And.intro (HM2.out.byd hX3 h1 h2 (by simp) (by simp)) (HX2.out.trans (hX3.mono (by simp)))))
  clear hT3 hX3
  go_wp2_with fail
  go_end0
  exact ⟨rfl, HF.out.1, HF.out.2.1, HF.out.2.2⟩

set_option maxHeartbeats 1000000 in
/-- Cas that finds what it wants. -/
theorem th_cas_hit {w : World} {tb mb wb N cap k a : Nat} {old x : Int} {f : Nat → Int} (h : ThAt w tb mb k) (hk : k ≤ 900000) (M : MemAt w mb wb N cap f) (h1 : mb < tb) (h2 : wb < tb) (ha : a < N) (hN : N ≤ 100000) (ho : f a = old) :
    Calls Tryz.prog 81 #[.pointer (some ⟨tb, 0, none⟩), .int .i64 (a : Nat), .int .i64 old, .int .i64 x] w fun e w' => e = .returned (.bool true) ∧ ThAt w' tb mb (k + 2) ∧ MemAt w' mb wb N cap (upd f a x) ∧ Byd tb [wb] w w' := by
  have HG := Lib.hid (th_goes h (by omega))
  have HM := Lib.hid M
  have hfit := M.fits
  have haN : (a : Int) < (N : Int) := by omega
  have HX := Lib.hid ho
  clear h M ho
  go_enter Tryz.func81, Tryz.ntmps81
  go_wp2_with fail
  refine HG.out.mono ?_
  rintro e w1 ⟨rfl, hT1, hX1⟩
  have hM1 := HM.out.byd hX1 h1 h2 (by simp) (by simp)
  obtain ⟨t0, _⟩ := hT1.m
  obtain ⟨m0, m1, mf⟩ := hM1.cells ha
  rw [HX.out] at m1
  have HT1 := Lib.hid hT1
  have HM1 := Lib.hid hM1
  have HX1 := Lib.hid hX1
  clear hT1 hX1 hM1
  go_upto_region 8 with fail
  have hO : Only [wb] w1 (w1.setCell ⟨wb, a, none⟩ (.int .i64 x)) := Only.setCell _ (by simp) _
  refine wp_name (fun w2 => ThAt w2 tb mb (k + 1) ∧ MemAt w2 mb wb N cap (upd f a x) ∧ Byd tb [wb] w w2) ⟨HT1.out.only hO (by simp; omega), HM1.out.set a x, (HX1.out.mono (by simp)).trans (Byd.of hO (by have := HT1.out.lt; omega) (by simp; omega))⟩ ?_
  clear t0 m0 m1 mf hO HX1 HT1 HM1
  rintro w2 ⟨hT2, hM2, hX2⟩
  have HT := Lib.hid (th_told (v := 1) hT2 (by omega))
  have HM2 := Lib.hid hM2
  have HX2 := Lib.hid hX2
  clear hT2 hM2 hX2
  go_wp2_with fail
  refine HT.out.mono ?_
  rintro e w3 ⟨rfl, hT3, hX3⟩
  have HF := Lib.hid (And.intro hT3 (And.intro (HM2.out.byd hX3 h1 h2 (by simp) (by simp)) (HX2.out.trans (hX3.mono (by simp)))))
  clear hT3 hX3
  go_wp2_with fail
  go_ret
  exact ⟨rfl, HF.out.1, HF.out.2.1, HF.out.2.2⟩

set_option maxHeartbeats 1000000 in
/-- Cas that finds another number. -/
theorem th_cas_miss {w : World} {tb mb wb N cap k a : Nat} {old x : Int} {f : Nat → Int} (h : ThAt w tb mb k) (hk : k ≤ 900000) (M : MemAt w mb wb N cap f) (h1 : mb < tb) (h2 : wb < tb) (ha : a < N) (hN : N ≤ 100000) (ho : ¬ f a = old) :
    Calls Tryz.prog 81 #[.pointer (some ⟨tb, 0, none⟩), .int .i64 (a : Nat), .int .i64 old, .int .i64 x] w fun e w' => e = .returned (.bool false) ∧ ThAt w' tb mb (k + 2) ∧ Byd tb [] w w' := by
  have HG := Lib.hid (th_goes h (by omega))
  have HM := Lib.hid M
  have hfit := M.fits
  have haN : (a : Int) < (N : Int) := by omega
  obtain ⟨y, hy⟩ : ∃ y, f a = y := ⟨_, rfl⟩
  have HX := Lib.hid hy
  rw [hy] at ho
  have hob : (y == old) = false := by simpa using ho
  clear h M hy
  go_enter Tryz.func81, Tryz.ntmps81
  go_wp2_with fail
  refine HG.out.mono ?_
  rintro e w1 ⟨rfl, hT1, hX1⟩
  have hM1 := HM.out.byd hX1 h1 h2 (by simp) (by simp)
  obtain ⟨t0, _⟩ := hT1.m
  obtain ⟨m0, m1, mf⟩ := hM1.cells ha
  rw [HX.out] at m1
  have HT := Lib.hid (th_told (v := 0) hT1 (by omega))
  have HX1 := Lib.hid hX1
  clear hT1 hX1 hM1
  go_wp2_with fail
  refine HT.out.mono ?_
  rintro e w2 ⟨rfl, hT2, hX2⟩
  have HF := Lib.hid (And.intro hT2 (HX1.out.trans hX2))
  clear hT2 hX2 t0 m0 m1 mf
  go_wp2_with fail
  go_ret
  exact ⟨rfl, HF.out.1, HF.out.2⟩

set_option maxHeartbeats 1000000 in
/-- Fresh. -/
theorem th_fresh {w : World} {tb mb k : Nat} (h : ThAt w tb mb k) (hk : k ≤ 900000) :
    Calls Tryz.prog 72 #[.pointer (some ⟨tb, 0, none⟩)] w fun e w' => e = .returned (.bool true) ∧ ThAt w' tb mb (k + 1) ∧ Byd tb [] w w' := by
  have HT := Lib.hid (fun W (o : Only [] w W) => th_told (v := 0) (h.only o (by simp)) (by omega))
  have hlt := h.lt
  obtain ⟨own, log, L, left, hB, hO, _⟩ := h
  obtain ⟨ad, cap, rfl⟩ := own_slice_any hO
  have c2 := hB.cell 2 rfl
  have c4 := hB.cell 4 rfl
  have c5 := hB.cell 5 rfl
  obtain ⟨ll, hll⟩ : ∃ q, L.length = q := ⟨_, rfl⟩
  rw [hll] at c4 c5
  clear hB hO hll
  go_enter Tryz.func72, Tryz.ntmps72
  go_wp2_with fail
  go_quiet (fail)
  go_wp2_with fail
  refine (HT.out _ (Only.drewN [] _ _)).mono ?_
  rintro e w2 ⟨rfl, hT2, hX2⟩
  have HF := Lib.hid (And.intro hT2 ((Byd.of (S := []) (Only.drewN [] w _) (by omega) (by simp)).trans hX2))
  clear hT2 hX2 c2 c4 c5
  go_wp2_with fail
  go_ret
  exact ⟨rfl, HF.out.1, HF.out.2⟩

set_option maxHeartbeats 1000000 in
/-- Kept. -/
theorem th_kept {w : World} {tb mb k : Nat} {v : Int} (h : ThAt w tb mb k) (hk : k ≤ 900000) :
    Calls Tryz.prog 76 #[.pointer (some ⟨tb, 0, none⟩), .int .i64 v] w fun e w' => e = .returned (.int .i64 v) ∧ ThAt w' tb mb (k + 1) ∧ Byd tb [] w w' := by
  have HT := Lib.hid (fun W (o : Only [] w W) => th_told (v := v) (h.only o (by simp)) (by omega))
  have hlt := h.lt
  obtain ⟨own, log, L, left, hB, hO, _⟩ := h
  obtain ⟨ad, cap, rfl⟩ := own_slice_any hO
  have c2 := hB.cell 2 rfl
  have c4 := hB.cell 4 rfl
  have c5 := hB.cell 5 rfl
  obtain ⟨ll, hll⟩ : ∃ q, L.length = q := ⟨_, rfl⟩
  rw [hll] at c4 c5
  clear hB hO hll
  go_enter Tryz.func76, Tryz.ntmps76
  go_wp2_with fail
  go_quiet (fail)
  go_wp2_with fail
  refine (HT.out _ (Only.drewN [] _ _)).mono ?_
  rintro e w2 ⟨rfl, hT2, hX2⟩
  have HF := Lib.hid (And.intro hT2 ((Byd.of (S := []) (Only.drewN [] w _) (by omega) (by simp)).trans hX2))
  clear hT2 hX2 c2 c4 c5
  go_wp2_with fail
  go_ret
  exact ⟨rfl, HF.out.1, HF.out.2⟩

end Go.Proofs.YtpknnamficegbaaGreatDoor

namespace Go.Proofs.YtpknnamficegbaaGreatDoor
open Go.RowKit

/-- The document's words of a pool: the pile's head, the next ones, the generations. -/
def wordsF (n hd : Nat) (t : Int) (nx : List Int) (S : Nat → Sl) : Nat → Int := fun j => if j = 0 then wd (hd : Nat) t else if j ≤ n + 1 then nx.getD (j - 1) 0 else (S (j - (n + 2))).gen

theorem wordsF_head (n hd : Nat) (t : Int) (nx : List Int) (S : Nat → Sl) : wordsF n hd t nx S 0 = wd (hd : Nat) t := rfl

theorem wordsF_next {n i : Nat} (hd : Nat) (t : Int) (nx : List Int) (S : Nat → Sl) (hi : i ≤ n) : wordsF n hd t nx S (1 + i) = nx.getD i 0 := by
  unfold wordsF
  rw [if_neg (by omega), if_pos (by omega)]
  congr 1
  omega

theorem wordsF_gen (n hd i : Nat) (t : Int) (nx : List Int) (S : Nat → Sl) : wordsF n hd t nx S (n + 2 + i) = (S i).gen := by
  unfold wordsF
  rw [if_neg (by omega), if_neg (by omega)]
  congr 2
  omega

theorem wordsF_pop (n hd hd' : Nat) (t t' : Int) (nx : List Int) (S : Nat → Sl) : upd (wordsF n hd t nx S) 0 (wd (hd' : Nat) t') = wordsF n hd' t' nx S := by
  funext j
  unfold upd wordsF
  by_cases h : j = 0 <;> simp [h]

theorem wordsF_link {n i : Nat} (hd : Nat) (t x : Int) (nx : List Int) (S : Nat → Sl) (hi : i ≤ n) (hl : nx.length = n + 1) : upd (wordsF n hd t nx S) (1 + i) x = wordsF n hd t (nx.set i x) S := by
  funext j
  unfold upd wordsF
  by_cases h : j = 1 + i
  · subst h
    rw [if_pos rfl, if_neg (by omega), if_pos (by omega), getD_set _ _ _ _ (by omega), if_pos (by omega)]
  · rw [if_neg h]
    by_cases h0 : j = 0
    · simp [h0]
    · rw [if_neg h0, if_neg h0]
      by_cases h1 : j ≤ n + 1
      · rw [if_pos h1, if_pos h1, getD_set _ _ _ _ (by omega), if_neg (by omega)]
      · rw [if_neg h1, if_neg h1]

theorem wordsF_upgen {n i : Nat} (hd : Nat) (t : Int) (nx : List Int) (S : Nat → Sl) (s : Sl) : upd (wordsF n hd t nx S) (n + 2 + i) s.gen = wordsF n hd t nx (upS S i s) := by
  funext j
  unfold upd wordsF
  by_cases h : j = n + 2 + i
  · subst h
    rw [if_pos rfl, if_neg (by omega), if_neg (by omega)]
    have e : n + 2 + i - (n + 2) = i := by omega
    rw [e, upS_same]
  · rw [if_neg h]
    by_cases h0 : j = 0
    · simp [h0]
    · rw [if_neg h0, if_neg h0]
      by_cases h1 : j ≤ n + 1
      · rw [if_pos h1, if_pos h1]
      · rw [if_neg h1, if_neg h1]
        unfold upS
        rw [if_neg (by omega)]

/-- The document's pile: where its words are. -/
def PileV (n mb : Nat) : Array Value := #[.pointer (some ⟨mb, 0, none⟩), .int .i64 0, .int .i64 1, .int .i64 n]

/-- The pile, its words, the worker. -/
structure Rp (w : World) (pl mb wb cap tb k n hd : Nat) (t : Int) (nx : List Int) (S : Nat → Sl) : Prop where
  pile : Blk w pl (PileV n mb) 175
  mem : MemAt w mb wb (2 * n + 3) cap (wordsF n hd t nx S)
  th : ThAt w tb mb k
  low : pl < tb ∧ mb < tb ∧ wb < tb
  off : pl ≠ mb ∧ pl ≠ wb
  many : 1 ≤ n ∧ n ≤ 4096
  tag : 0 ≤ t ∧ t ≤ 1000000000000
  hdr : hd ≤ n
  len : nx.length = n + 1
  rng : ∀ j, j ≤ n → 0 ≤ nx.getD j 0 ∧ nx.getD j 0 ≤ n

section
variable {w : World} {pl mb wb cap tb k n hd : Nat} {t : Int} {nx : List Int} {S : Nat → Sl}

theorem Rp.step {w' : World} {k' : Nat} (h : Rp w pl mb wb cap tb k n hd t nx S) (hT : ThAt w' tb mb k') (o : Byd tb [] w w') : Rp w' pl mb wb cap tb k' n hd t nx S :=
  ⟨h.pile.only o.only (Byd.not_in h.low.1 (by simp)), h.mem.byd o h.low.2.1 h.low.2.2 (by simp) (by simp), hT, h.low, h.off, h.many, h.tag, h.hdr, h.len, h.rng⟩

theorem Rp.turn {w' : World} {k' hd' : Nat} {t' : Int} {nx' : List Int} {S' : Nat → Sl} (h : Rp w pl mb wb cap tb k n hd t nx S) (hT : ThAt w' tb mb k') (hM : MemAt w' mb wb (2 * n + 3) cap (wordsF n hd' t' nx' S')) (o : Byd tb [wb] w w') (h1 : 0 ≤ t' ∧ t' ≤ 1000000000000) (h2 : hd' ≤ n) (h3 : nx'.length = n + 1) (h4 : ∀ j, j ≤ n → 0 ≤ nx'.getD j 0 ∧ nx'.getD j 0 ≤ n) : Rp w' pl mb wb cap tb k' n hd' t' nx' S' :=
  ⟨h.pile.only o.only (Byd.not_in h.low.1 (by simp; exact h.off.2)), hM, hT, h.low, h.off, h.many, h1, h2, h3, h4⟩

theorem Rp.c (h : Rp w pl mb wb cap tb k n hd t nx S) : w.cell? ⟨pl, 0, none⟩ = some (.pointer (some ⟨mb, 0, none⟩)) ∧ w.cell? ⟨pl, 1, none⟩ = some (.int .i64 0) ∧ w.cell? ⟨pl, 2, none⟩ = some (.int .i64 1) ∧ w.cell? ⟨pl, 3, none⟩ = some (.int .i64 n) ∧ w.cell? ⟨tb, 2, none⟩ = some (.bool false) :=
  ⟨h.pile.cell 0 rfl, h.pile.cell 1 rfl, h.pile.cell 2 rfl, h.pile.cell 3 rfl, h.th.m.2⟩

set_option maxHeartbeats 1000000 in
theorem ref_pop_none (h : Rp w pl mb wb cap tb k n 0 t nx S) (hk : k ≤ 800000) :
    Calls Tryz.prog 71 #[.pointer (some ⟨pl, 0, none⟩), .pointer (some ⟨tb, 0, none⟩)] w fun e w' => e = .returned (.int .i64 0) ∧ Rp w' pl mb wb cap tb (k + 2) n 0 t nx S ∧ Byd tb [] w w' := by
  have hm := h.many
  have ht := h.tag
  have HL := Lib.hid (th_load (a := 0) h.th (by omega) h.mem h.low.2.1 h.low.2.2 (by omega) (by omega))
  rw [wordsF_head] at HL
  have hi := idxOf_wd (x := ((0 : Nat) : Int)) (t := t) (by omega) (by omega) ht.1 (by omega)
  have HI := Lib.hid (fun w => ref_idx (wd ((0 : Nat) : Int) t) w)
  rw [hi] at HI
  obtain ⟨X, hX⟩ : ∃ X, wd ((0 : Nat) : Int) t = X := ⟨_, rfl⟩
  rw [hX] at HL HI
  obtain ⟨c0, c1, c2, c3, t2⟩ := h.c
  have H := Lib.hid h
  clear hi hX h
  go_enter Tryz.func71, Tryz.ntmps71
  go_wp2_with fail
  refine wp_loop_rounds 1 ?_
  rw [rounds_succ]
  go_wp2_with fail
  refine HL.out.mono ?_
  rintro e w1 ⟨rfl, hT1, hX1⟩
  have h1 := H.out.step hT1 hX1
  obtain ⟨d0, d1, d2, d3, d4⟩ := h1.c
  have HF := Lib.hid (And.intro h1 hX1)
  clear c0 c1 c2 c3 t2 hT1 hX1 h1
  go_wp2_with fail
  refine (HI.out _).mono ?_
  rintro e w' ⟨rfl, rfl⟩
  go_wp2_with fail
  go_ret
  exact ⟨rfl, HF.out.1, HF.out.2⟩

set_option maxHeartbeats 2000000 in
theorem ref_pop {j : Nat} (h : Rp w pl mb wb cap tb k n hd t nx S) (hk : k ≤ 800000) (h1 : 1 ≤ hd) (hj : nx.getD hd 0 = (j : Nat)) (ht1 : t + 1 ≤ 1000000000000) :
    Calls Tryz.prog 71 #[.pointer (some ⟨pl, 0, none⟩), .pointer (some ⟨tb, 0, none⟩)] w fun e w' => e = .returned (.int .i64 (hd : Nat)) ∧ Rp w' pl mb wb cap tb (k + 6) n j (t + 1) nx S ∧ Byd tb [wb] w w' := by
  have hm := h.many
  have ht := h.tag
  have hhd := h.hdr
  have hjr := h.rng hd hhd
  rw [hj] at hjr
  have HL := Lib.hid (th_load (a := 0) h.th (by omega) h.mem h.low.2.1 h.low.2.2 (by omega) (by omega))
  rw [wordsF_head] at HL
  have hi := idxOf_wd (x := (hd : Int)) (t := t) (by omega) (by omega) ht.1 (by omega)
  have hwr := wd_range (x := (hd : Int)) (t := t) (by omega) (by omega) ht.1 (by omega)
  have HI := Lib.hid (fun w => ref_idx (wd (hd : Int) t) w)
  rw [hi] at HI
  have HN := Lib.hid (fun w => ref_next (wd (hd : Int) t) (j : Nat) w hwr.1 hwr.2 (by omega) (by omega))
  rw [wd_tag ht.1 (by omega), show (t + 1) % 1099511627776 = t + 1 by omega] at HN
  have HL2 := Lib.hid (fun W k' (hT : ThAt W tb mb k') (hk' : k' ≤ 900000) (hM : MemAt W mb wb (2 * n + 3) cap (wordsF n hd t nx S)) => th_load (a := 1 + hd) hT hk' hM h.low.2.1 h.low.2.2 (by omega) (by omega))
  rw [wordsF_next hd t nx S hhd, hj] at HL2
  have HC := Lib.hid (fun W k' (hT : ThAt W tb mb k') (hk' : k' ≤ 900000) (hM : MemAt W mb wb (2 * n + 3) cap (wordsF n hd t nx S)) => th_cas_hit (a := 0) (old := wd (hd : Int) t) (x := wd (j : Nat) (t + 1)) hT hk' hM h.low.2.1 h.low.2.2 (by omega) (by omega) (wordsF_head _ _ _ _ _))
  rw [wordsF_pop] at HC
  obtain ⟨c0, c1, c2, c3, t2⟩ := h.c
  have H := Lib.hid h
  obtain ⟨X, hX⟩ : ∃ X, wd (hd : Int) t = X := ⟨_, rfl⟩
  obtain ⟨Y, hY⟩ : ∃ Y, wd (j : Int) (t + 1) = Y := ⟨_, rfl⟩
  rw [hX] at HL HI HN HC
  rw [hY] at HN HC
  have e0 : ((hd : Int) == 0) = false := by simp; omega
  have hw1 : IntKind.i64.wrap (1 + (hd : Int)) = ((1 + hd : Nat) : Int) := by rw [IntWalk.i64_in _ ⟨by omega, by omega⟩]; omega
  have hjn : j ≤ n := by omega
  clear hi hX hY h hwr hjr hj
  go_enter Tryz.func71, Tryz.ntmps71
  go_wp2_with fail
  refine wp_loop_rounds 1 ?_
  rw [rounds_succ]
  go_wp2_with fail
  refine HL.out.mono ?_
  rintro e w1 ⟨rfl, hT1, hX1⟩
  have hR1 := H.out.step hT1 hX1
  have HC2 := Lib.hid (HL2.out w1 (k + 2) hT1 (by omega) hR1.mem)
  obtain ⟨c0, c1, c2, c3, t2⟩ := hR1.c
  have HR1 := Lib.hid (And.intro hR1 hX1)
  clear hT1 hX1 hR1 HL2 HL
  go_wp2_with fail
  refine (HI.out _).mono ?_
  rintro e w' ⟨rfl, rfl⟩
  go_wp2_with fail
  refine HC2.out.mono ?_
  rintro e w2 ⟨rfl, hT2, hX2⟩
  have hR2 := HR1.out.1.step hT2 hX2
  have HC3 := Lib.hid (HC.out w2 (k + 2 + 2) hT2 (by omega) hR2.mem)
  obtain ⟨c0, c1, c2, c3, t2⟩ := hR2.c
  have HR2 := Lib.hid (And.intro hR2 (HR1.out.2.trans hX2))
  clear hT2 hX2 hR2 HR1 HC HC2
  go_wp2_with fail
  refine (HN.out _).mono ?_
  rintro e w' ⟨rfl, rfl⟩
  go_wp2_with fail
  refine HC3.out.mono ?_
  rintro e w3 ⟨rfl, hT3, hM3, hX3⟩
  have hR3 := HR2.out.1.turn hT3 hM3 hX3 ⟨by omega, by omega⟩ (by omega) HR2.out.1.len HR2.out.1.rng
  obtain ⟨c0, c1, c2, c3, t2⟩ := hR3.c
  have HF := Lib.hid (And.intro hR3 ((HR2.out.2.mono (by simp)).trans hX3))
  clear hT3 hM3 hX3 hR3 HC3 HR2
  go_wp2_with fail
  go_ret
  exact ⟨rfl, HF.out.1, HF.out.2⟩

set_option maxHeartbeats 2000000 in
theorem ref_push {i : Nat} (h : Rp w pl mb wb cap tb k n hd t nx S) (hk : k ≤ 800000) (h1 : 1 ≤ i) (h2 : i ≤ n) (ht1 : t + 1 ≤ 1000000000000) :
    Calls Tryz.prog 82 #[.pointer (some ⟨pl, 0, none⟩), .pointer (some ⟨tb, 0, none⟩), .int .i64 (i : Nat)] w fun e w' => e = .returned (.tuple #[]) ∧ Rp w' pl mb wb cap tb (k + 6) n i (t + 1) (nx.set i (hd : Nat)) S ∧ Byd tb [wb] w w' := by
  have hm := h.many
  have ht := h.tag
  have hhd := h.hdr
  have hln := h.len
  have HL := Lib.hid (th_load (a := 0) h.th (by omega) h.mem h.low.2.1 h.low.2.2 (by omega) (by omega))
  rw [wordsF_head] at HL
  have hi := idxOf_wd (x := (hd : Int)) (t := t) (by omega) (by omega) ht.1 (by omega)
  have hwr := wd_range (x := (hd : Int)) (t := t) (by omega) (by omega) ht.1 (by omega)
  have HI := Lib.hid (fun w => ref_idx (wd (hd : Int) t) w)
  rw [hi] at HI
  have HN := Lib.hid (fun w => ref_next (wd (hd : Int) t) (i : Nat) w hwr.1 hwr.2 (by omega) (by omega))
  rw [wd_tag ht.1 (by omega), show (t + 1) % 1099511627776 = t + 1 by omega] at HN
  have HST := Lib.hid (fun W k' (hT : ThAt W tb mb k') (hk' : k' ≤ 900000) (hM : MemAt W mb wb (2 * n + 3) cap (wordsF n hd t nx S)) => th_store (a := 1 + i) (x := (hd : Nat)) hT hk' hM h.low.2.1 h.low.2.2 (by omega) (by omega))
  rw [wordsF_link hd t (hd : Nat) nx S h2 hln] at HST
  have HC := Lib.hid (fun W k' (hT : ThAt W tb mb k') (hk' : k' ≤ 900000) (hM : MemAt W mb wb (2 * n + 3) cap (wordsF n hd t (nx.set i (hd : Nat)) S)) => th_cas_hit (a := 0) (old := wd (hd : Int) t) (x := wd (i : Nat) (t + 1)) hT hk' hM h.low.2.1 h.low.2.2 (by omega) (by omega) (wordsF_head _ _ _ _ _))
  rw [wordsF_pop] at HC
  have hrng2 : ∀ j, j ≤ n → 0 ≤ (nx.set i (hd : Nat)).getD j 0 ∧ (nx.set i (hd : Nat)).getD j 0 ≤ n := by
    intro j hj
    rw [getD_set _ _ _ _ (by omega)]
    split
    · omega
    · exact h.rng j hj
  have HRG := Lib.hid hrng2
  obtain ⟨c0, c1, c2, c3, t2⟩ := h.c
  have H := Lib.hid h
  obtain ⟨X, hX⟩ : ∃ X, wd (hd : Int) t = X := ⟨_, rfl⟩
  obtain ⟨Y, hY⟩ : ∃ Y, wd (i : Int) (t + 1) = Y := ⟨_, rfl⟩
  rw [hX] at HL HI HN HC
  rw [hY] at HN HC
  have hw1 : IntKind.i64.wrap (1 + (i : Int)) = ((1 + i : Nat) : Int) := by rw [IntWalk.i64_in _ ⟨by omega, by omega⟩]; omega
  clear hi hX hY h hwr hrng2
  go_enter Tryz.func82, Tryz.ntmps82
  go_wp2_with fail
  refine wp_loop_rounds 1 ?_
  rw [rounds_succ]
  go_wp2_with fail
  refine HL.out.mono ?_
  rintro e w1 ⟨rfl, hT1, hX1⟩
  have hR1 := H.out.step hT1 hX1
  have HTD := Lib.hid (fun W (o : Only [] w1 W) => HST.out W (k + 2) (hT1.only o (by simp)) (by omega) (hR1.mem.only o (by simp) (by simp)))
  have HRD := Lib.hid (fun W (o : Only [] w1 W) => show Rp W pl mb wb cap tb (k + 2) n hd t nx S ∧ Byd tb [] w W from ⟨hR1.step (hT1.only o (by simp)) (Byd.of o (by have := hT1.lt; omega) (by simp)), hX1.trans (Byd.of o (by have := hT1.lt; omega) (by simp))⟩)
  obtain ⟨c0, c1, c2, c3, t2⟩ := hR1.c
  clear hT1 hX1 hR1 HST HL
  go_upto_region 2 with fail
  go_cut [] (fun wq => Rp wq pl mb wb cap tb (k + 2 + 2) n hd t (nx.set i (hd : Nat)) S ∧ Byd tb [wb] w wq)
  case first =>
    go_region_with (first | (go_at_call 116; refine (HI.out _).mono ?_; rintro e w' ⟨rfl, rfl⟩) | (go_at_call 121; refine (HTD.out w1.drew (Only.drew _ _)).mono ?_; rintro e w2 ⟨rfl, hT2, hM2, hX2⟩; have HR2 := Lib.hid (show Rp w2 pl mb wb cap tb (k + 2 + 2) n hd t (nx.set i (hd : Nat)) S ∧ Byd tb [wb] w w2 from ⟨(HRD.out w1.drew (Only.drew _ _)).1.turn hT2 hM2 hX2 ht hhd (by simp [hln]) HRG.out, ((HRD.out w1.drew (Only.drew _ _)).2.mono (by simp)).trans hX2⟩); clear hT2 hM2 hX2))
    all_goals go_wp2_with fail
    all_goals go_meet
    all_goals exact HR2.out
  case rest =>
    obtain ⟨hR2, hX2⟩ := hcut
    obtain ⟨w2, hw2⟩ : ∃ x, x = wc := ⟨_, rfl⟩
    subst hw2
    have HC3 := Lib.hid (HC.out w2 (k + 2 + 2) hR2.th (by omega) hR2.mem)
    obtain ⟨c0, c1, c2, c3, t2⟩ := hR2.c
    have HR2 := Lib.hid (And.intro hR2 hX2)
    clear hR2 hX2 HC HTD HRD
    go_wp2_with fail
    refine (HN.out _).mono ?_
    rintro e w' ⟨rfl, rfl⟩
    go_wp2_with fail
    refine HC3.out.mono ?_
    rintro e w3 ⟨rfl, hT3, hM3, hX3⟩
    have hR3 := HR2.out.1.turn hT3 hM3 hX3 ⟨by omega, by omega⟩ (by omega) HR2.out.1.len HR2.out.1.rng
    obtain ⟨c0, c1, c2, c3, t2⟩ := hR3.c
    have HF := Lib.hid (And.intro hR3 (HR2.out.2.trans hX3))
    clear hT3 hM3 hX3 hR3 HC3 HR2
    go_wp2_with fail
    (try simp only [Exit.inBlock, Exit.then]); refine bodyPost_ret (results_none rfl _ _ _) rfl ?_
    exact ⟨rfl, HF.out.1, HF.out.2⟩

end

end Go.Proofs.YtpknnamficegbaaGreatDoor

