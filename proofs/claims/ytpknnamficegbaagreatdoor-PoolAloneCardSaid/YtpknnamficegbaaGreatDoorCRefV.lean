/- The document's words while they are made: New, Words, Put; a worker alone. No condition. · The document's pile, made. No condition. · The document's pool, made. No condition. -/
import Derived.Test.YtpknnamficegbaaGreatDoorCPoolY
import Derived.Test.YtpknnamficegbaaGreatDoorCSlots
import Derived.Test.YtpknnamficegbaaGreatDoorCRefW
set_option linter.unusedVariables false
set_option linter.unusedSimpArgs false
set_option linter.unusedSectionVars false
set_option linter.unnecessarySimpa false
namespace Go.Proofs.YtpknnamficegbaaGreatDoor
open Go.RowKit

theorem rowset {w : World} {base : Nat} {e : TypeId} {g n cap : Nat} {xs : List Value} (h : w.ownsRow base e 1 (.slice (some ⟨g, 0, none⟩) n cap) n xs) (j : Nat) (u : Value) : (w.setCell ⟨g, j, none⟩ u).ownsRow base e 1 (.slice (some ⟨g, 0, none⟩) n cap) n (xs.set j u) := by
  have hl : xs.length = n := by simpa using h.1
  refine ⟨by simpa using h.1, ?_⟩
  rcases h.2 with ⟨hv, h0⟩ | ⟨g', cap', cur, hv, hg, hb, hnc, hm, hs, ht⟩
  · exact absurd hv (by simp)
  · cases hv
    refine Or.inr ⟨g, cap, cur.setIfInBounds j u, rfl, hg, ?_, hnc, hm, by simpa using hs, ?_⟩
    · simp [World.setCell, Array.getElem?_modify, hb]
    · rw [← ht]
      simp [List.take_set]

/-- The words of a machine that grows: the numbers L. -/
structure MemV (w : World) (mb base : Nat) (L : List Int) (v : Value) : Prop where
  head : Blk w mb #[v] 126
  row : w.ownsRow base 3 1 v L.length (L.map (Value.int .i64))
  low : mb < base ∧ base ≤ w.heap.size

theorem MemV.only {w w' : World} {mb base : Nat} {L : List Int} {v : Value} {B : List Nat} (h : MemV w mb base L v) (o : Only B w w') (h1 : mb ∉ B) (h2 : ∀ b, v.ownBlock = some b → b ∉ B) : MemV w' mb base L v :=
  ⟨h.head.only o h1, ownsRow_only h.row o h2, h.low.1, Nat.le_trans h.low.2 o.size⟩

set_option maxHeartbeats 400000 in
theorem mem_new (w : World) : Calls Tryz.prog 17 #[] w fun e w' => e = .returned (.pointer (some ⟨w.heap.size, 0, none⟩)) ∧ MemV w' w.heap.size (w.heap.size + 1) [] (.slice none 0 0) ∧ Only [] w w' := by
  go_enter Tryz.func17, Tryz.ntmps17
  go_wp2_with fail
  go_ret
  exact ⟨rfl, ⟨Blk.new _ _ _, World.ownsRow_nil _ _ _ _, by simp⟩, Only.alloc _ _ _⟩

set_option maxHeartbeats 400000 in
theorem th_alone (w : World) (mb : Nat) : Calls Tryz.prog 19 #[.pointer (some ⟨mb, 0, none⟩), .int .i64 0] w fun e w' => e = .returned (.pointer (some ⟨w.heap.size, 0, none⟩)) ∧ ThAt w' w.heap.size mb 0 ∧ Only [] w w' := by
  go_enter Tryz.func19, Tryz.ntmps19
  go_wp2_with fail
  go_ret
  exact ⟨rfl, ⟨0, .slice none 0 0, [], 4611686018427387904, Blk.new _ _ _, World.ownsRow_nil _ _ _ _, by simp⟩, Only.alloc _ _ _⟩

set_option maxRecDepth 100000 in
set_option maxHeartbeats 1000000 in
theorem mem_words {w : World} {mb base c : Nat} {x : Int} {L : List Int} {v : Value} (M : MemV w mb base L v) (hc : L.length + c ≤ 100000) :
    Calls Tryz.prog 70 #[.pointer (some ⟨mb, 0, none⟩), .int .i64 (c : Nat), .int .i64 x] w fun e w' => ∃ v', e = .returned (.int .i64 (L.length : Nat)) ∧ MemV w' mb base (L ++ List.replicate c x) v' ∧ Only (mb :: v.ownBlock.toList) w w' ∧ (∀ b, v'.ownBlock = some b → v.ownBlock = some b ∨ w.heap.size ≤ b) := by
  obtain ⟨ad, cp, rfl⟩ := own_slice_any M.row
  have m0 := M.head.cell 0 rfl
  obtain ⟨i0, hi0, hz0, hz1, hz2⟩ := info_parts info_int
  have HI0 := Lib.hid (And.intro hi0 (And.intro hz0 (And.intro hz1 hz2)))
  obtain ⟨ll, hll⟩ : ∃ q, L.length = q := ⟨_, rfl⟩
  have HLL := Lib.hid hll
  rw [hll] at M m0 hc ⊢
  have HM := Lib.hid M
  clear hi0 hz0 hz1 hz2 M hll
  go_enter Tryz.func70, Tryz.ntmps70
  go_wp2_with fail
  go_loopg [8] c (fun g s8 wr => ∃ (j : Nat) (v' : Value), j + g = c ∧ s8 = .int .i64 (j : Nat) ∧ MemV wr mb base (L ++ List.replicate j x) v' ∧ Only (mb :: (Value.slice ad ll cp).ownBlock.toList) w wr ∧ (∀ b, v'.ownBlock = some b → (Value.slice ad ll cp).ownBlock = some b ∨ w.heap.size ≤ b))
  case atStart => exact ⟨0, _, by omega, rfl, by simp only [List.replicate_zero, List.append_nil]; exact HM.out, Only.refl _ _, fun b hb => Or.inl hb⟩
  case round =>
    obtain ⟨j, v', hj, rfl, hM, hX, hat⟩ := hrel
    obtain ⟨ad', cp', rfl⟩ := own_slice_any hM.row
    have hlen : (L ++ List.replicate j x).length = ll + j := by rw [List.length_append, List.length_replicate, HLL.out]
    rw [hlen] at hM hat
    have q0 := hM.head.cell 0 rfl
    have hrow := hM.row
    rw [hlen] at hrow
    have HR := Lib.hid hrow
    have HMR := Lib.hid hM
    have HX := Lib.hid hX
    have HAT := Lib.hid hat
    have HJ := Lib.hid hj
    by_cases hjc : j < c
    · have hjc' : (j : Int) < (c : Int) := by omega
      have hll2 : ll + j ≤ 100000 := by omega
      have hbs := hM.low
      obtain ⟨hbs1, hbs2⟩ := hbs
      obtain ⟨hi0, hz0, hz1, hz2⟩ := HI0.out
      obtain ⟨xs, hxs⟩ : ∃ xs, (L ++ List.replicate j x).map (Value.int .i64) = xs := ⟨_, rfl⟩
      rw [hxs] at HR
      have HXS := Lib.hid hxs
      clear hM hrow hX hat hj hlen m0 hxs
      go_upto_region 5 with fail
      go_upto_region 4 with (at_builtin; refine wpList_append_any (by rfl) (.tmp 23) (.tmp 25) 29 (by rfl) base 3 i0 _ 1 8 Tryz.underlying29 hi0 hz0 hz1 hz2 rfl (by decide) _ (ll + j) xs rfl (HR.out.alloc _) (some ⟨wr.heap.size, 0, none⟩) 1 1 [.int .i64 x] rfl rfl (fun e => by cases e) (fun ad e => by cases e; exact cell_one_new _ _ _) (fun u hu => by simp at hu; subst hu; rfl) (by unfold maxLen; omega) (by omega) (by simp; omega) ?_)
      intro v5 w5 hown5 hX5 hat5
      obtain ⟨ad5, cp5, rfl⟩ := own_slice_any hown5
      have hX5' : Only (Value.slice ad' (ll + j) cp').ownBlock.toList wr w5 := (Only.alloc _ _ _).trans hX5
      have hmb : mb ∉ (Value.slice ad' (ll + j) cp').ownBlock.toList := fun hm => by have := (HR.out.lt mb (by simpa using hm)).1; omega
      have hB5 := HMR.out.head.only hX5' hmb
      have q0 := hB5.cell 0 rfl
      have qf := hB5.free 0
      have HF : Hid (∀ W, w5.setCell ⟨mb, 0, none⟩ (.slice ad5 (ll + j + 1) cp5) = W → MemV W mb base (L ++ List.replicate (j + 1) x) (.slice ad5 (ll + j + 1) cp5) ∧ Only (mb :: (Value.slice ad ll cp).ownBlock.toList) w W ∧ (∀ b, (Value.slice ad5 (ll + j + 1) cp5).ownBlock = some b → (Value.slice ad ll cp).ownBlock = some b ∨ w.heap.size ≤ b)) := by
        refine Lib.hid (fun W hW => ?_)
        subst hW
        have o1 : Only [mb] w5 (w5.setCell ⟨mb, 0, none⟩ (.slice ad5 (ll + j + 1) cp5)) := Only.setCell _ (by simp) _
        have hnb : ∀ b, (Value.slice ad5 (ll + j + 1) cp5).ownBlock = some b → b ∉ [mb] := fun b hb => by have := (hown5.lt b hb).1; simp; omega
        have hor : ∀ b, (Value.slice ad5 (ll + j + 1) cp5).ownBlock = some b → (Value.slice ad ll cp).ownBlock = some b ∨ w.heap.size ≤ b := fun b hb => by
          rcases hat5 b hb with h | h
          · exact HAT.out b h
          · exact Or.inr (by have := HX.out.size; omega)
        refine ⟨⟨hB5.set_same 0 _, ?_, hbs1, Nat.le_trans hbs2 (Nat.le_trans hX5'.size o1.size)⟩, (HX.out.past hX5' (fun b hb => ?_)).trans (o1.mono (by simp)), hor⟩
        · have e1 : (L ++ List.replicate (j + 1) x).map (Value.int .i64) = xs ++ [.int .i64 x] := by rw [← HXS.out, List.replicate_succ']; simp
          have e2 : (L ++ List.replicate (j + 1) x).length = ll + j + 1 := by rw [List.length_append, List.length_replicate, HLL.out]; omega
          rw [e1, e2]
          exact ownsRow_only hown5 o1 hnb
        · rcases HAT.out b (by simpa using hb) with h | h
          · exact Or.inl (by simp [h])
          · exact Or.inr h
      clear hown5 hX5 hat5 hX5' hmb hB5
      go_upto_region 4 with fail
      obtain ⟨w6, hw6⟩ : ∃ w6, w5.setCell ⟨mb, 0, none⟩ (.slice ad5 (ll + j + 1) cp5) = w6 := ⟨_, rfl⟩
      rw [hw6]
      have HF6 := Lib.hid (HF.out w6 hw6)
      clear hw6 HF q0 qf
      go_wp2_with fail
      go_roundg (gk - 1)
      case measure => have := HJ.out; omega
      case rel => exact ⟨j + 1, _, by have := HJ.out; omega, by rw [show ((j + 1 : Nat) : Int) = (j : Int) + 1 from by omega], HF6.out⟩
    · have hjc' : j = c := by omega
      subst hjc'
      clear hM hrow hX hat hj hlen
      go_wp2_with fail
      go_ret
      exact ⟨_, rfl, HMR.out, HX.out, HAT.out⟩

end Go.Proofs.YtpknnamficegbaaGreatDoor

namespace Go.Proofs.YtpknnamficegbaaGreatDoor
open Go.RowKit

theorem MemV.place {w : World} {mb base : Nat} {L : List Int} {v : Value} (M : MemV w mb base L v) {a : Nat} (ha : a < L.length) : ∃ g cap, v = .slice (some ⟨g, 0, none⟩) L.length cap ∧ base ≤ g ∧ g < w.heap.size ∧ L.length ≤ cap ∧ w.cell? ⟨g, a, none⟩ = some (.int .i64 (L.getD a 0)) ∧ w.frozen? ⟨g, a, none⟩ = false := by
  obtain ⟨g, cap, rest, rfl, hb, hc, hm, hB⟩ := own_open M.row (by omega)
  refine ⟨g, cap, rfl, hb, hB.lt, hc, ?_, hB.free a⟩
  refine hB.cell a ?_
  rw [List.getElem?_toArray, List.getElem?_append_left (by simpa using ha), List.getElem?_map, List.getD]
  simp [ha]

set_option maxHeartbeats 400000 in
theorem mem_putV {w : World} {mb base a : Nat} {x : Int} {L : List Int} {v : Value} (M : MemV w mb base L v) (ha : a < L.length) (hl : L.length ≤ 100000) :
    Calls Tryz.prog 73 #[.pointer (some ⟨mb, 0, none⟩), .int .i64 (a : Nat), .int .i64 x] w fun e w' => e = .returned (.tuple #[]) ∧ MemV w' mb base (L.set a x) v ∧ Only v.ownBlock.toList w w' := by
  obtain ⟨g, cap, rfl, hb, hgl, hfit, m1, mf⟩ := M.place ha
  have m0 := M.head.cell 0 rfl
  have hal : (a : Int) < (L.length : Int) := by omega
  have HF : Hid (MemV (w.setCell ⟨g, a, none⟩ (.int .i64 x)) mb base (L.set a x) (.slice (some ⟨g, 0, none⟩) L.length cap) ∧ Only (Value.slice (some ⟨g, 0, none⟩) L.length cap).ownBlock.toList w (w.setCell ⟨g, a, none⟩ (.int .i64 x))) := by
    refine Lib.hid ⟨⟨M.head.set_other (by have := M.low.1; simp; omega) _, ?_, M.low.1, ?_⟩, Only.setCell _ (by simp [Value.ownBlock]) _⟩
    · have := rowset M.row a (.int .i64 x)
      rw [List.length_set, List.map_set]
      exact this
    · simpa [World.setCell] using M.low.2
  obtain ⟨y, hy⟩ : ∃ y, L.getD a 0 = y := ⟨_, rfl⟩
  rw [hy] at m1
  clear M hy
  go_enter Tryz.func73, Tryz.ntmps73
  go_wp2_with fail
  go_end0
  exact ⟨rfl, HF.out.1, HF.out.2⟩

set_option maxHeartbeats 400000 in
theorem pile_bad {n : Int} (hn : n < 1 ∨ 4096 < n) (w : World) (mb : Nat) : Calls Tryz.prog 69 #[.pointer (some ⟨mb, 0, none⟩), .int .i64 n, .int .i64 0] w fun e w' => e = .returned (.pointer none) ∧ w = w' := by
  have HP := Lib.hid (fun w => ref_pack 1 0 w (by omega) (by omega) (by omega) (by omega))
  obtain ⟨X, hX⟩ : ∃ X, wd 1 0 = X := ⟨_, rfl⟩
  rw [hX] at HP
  clear hX
  by_cases h1 : n < 1
  · clear hn
    go_enter Tryz.func69, Tryz.ntmps69
    go_wp2_with fail
    refine (HP.out _).mono ?_
    rintro e w' ⟨rfl, rfl⟩
    go_wp2_with fail
    go_ret
    exact ⟨rfl, rfl⟩
  · have h2 : 4096 < n := by omega
    clear hn
    go_enter Tryz.func69, Tryz.ntmps69
    go_wp2_with fail
    refine (HP.out _).mono ?_
    rintro e w' ⟨rfl, rfl⟩
    go_wp2_with fail
    go_ret
    exact ⟨rfl, rfl⟩

set_option maxRecDepth 100000 in
set_option maxHeartbeats 2000000 in
theorem pile_made {n : Nat} {w : World} {mb base : Nat} (h1 : 1 ≤ n) (h2 : n ≤ 4096) (M : MemV w mb base [] (.slice none 0 0)) :
    Calls Tryz.prog 69 #[.pointer (some ⟨mb, 0, none⟩), .int .i64 n, .int .i64 0] w fun e w' => ∃ pl v, e = .returned (.pointer (some ⟨pl, 0, none⟩)) ∧ MemV w' mb base (wd 1 0 :: nxInit n n) v ∧ Blk w' pl (PileV n mb) 175 ∧ w.heap.size ≤ pl ∧ v.ownBlock ≠ some pl ∧ (∀ b, v.ownBlock = some b → w.heap.size ≤ b) ∧ Only [mb] w w' := by
  have HP := Lib.hid (fun w => ref_pack 1 0 w (by omega) (by omega) (by omega) (by omega))
  obtain ⟨X, hX⟩ : ∃ X, wd 1 0 = X := ⟨_, rfl⟩
  rw [hX] at HP ⊢
  have HW1 := Lib.hid (mem_words (c := 1) (x := X) M (by simp))
  have HLOW := Lib.hid M.low
  clear hX M
  go_enter Tryz.func69, Tryz.ntmps69
  go_wp2_with fail
  refine (HP.out _).mono ?_
  rintro e w' ⟨rfl, rfl⟩
  go_wp2_with fail
  refine HW1.out.mono ?_
  rintro e w1 ⟨v1, rfl, hM1, hX1, ha1⟩
  have HW2 := Lib.hid (mem_words (c := n + 1) (x := 0) hM1 (by simp; omega))
  have HF1 := Lib.hid (And.intro hX1 ha1)
  have hw1 : IntKind.i64.wrap ((n : Int) + 1) = ((n + 1 : Nat) : Int) := by rw [IntWalk.i64_in _ ⟨by omega, by omega⟩]; omega
  clear hM1 hX1 ha1 HW1
  go_wp2_with fail
  refine HW2.out.mono ?_
  rintro e w2 ⟨v2, rfl, hM2, hX2, ha2⟩
  have HM2 := Lib.hid hM2
  have HF2 := Lib.hid (And.intro hX2 ha2)
  clear hM2 hX2 ha2 HW2
  go_upto_region 5 with fail
  have hX02 : Only [mb] w w2 := by
    refine (HF1.out.1.mono (by simp [Value.ownBlock])).past HF2.out.1 (fun b hb => ?_)
    rcases List.mem_cons.1 hb with hb | hb
    · exact Or.inl (by simp [hb])
    · rcases HF1.out.2 b (by simpa using hb) with h | h
      · exact absurd h (by simp [Value.ownBlock])
      · exact Or.inr h
  have hv2 : ∀ b, v2.ownBlock = some b → w.heap.size ≤ b := fun b hb => by
    rcases HF2.out.2 b hb with h | h
    · rcases HF1.out.2 b h with h' | h'
      · exact absurd h' (by simp [Value.ownBlock])
      · exact h'
    · exact Nat.le_trans HF1.out.1.size h
  have hvp : v2.ownBlock ≠ some w2.heap.size := fun e => by have := (HM2.out.row.lt _ e).2; omega
  have HV := Lib.hid (And.intro hv2 hvp)
  refine wp_name (fun w3 => MemV w3 mb base (X :: nxInit 1 n) v2 ∧ Blk w3 w2.heap.size (PileV n mb) 175 ∧ Only [mb] w w3) ⟨?_, Blk.new _ _ _, hX02.trans (Only.alloc _ _ _)⟩ ?_
  · have := HM2.out.only (Only.alloc [] w2 (.cells #[.pointer (some ⟨mb, 0, none⟩), .int .i64 0, .int .i64 1, .int .i64 n] 175)) (by simp) (by simp)
    rw [nxInit_one]
    simpa using this
  have hpl : w.heap.size ≤ w2.heap.size := hX02.size
  obtain ⟨pl, hple⟩ : ∃ q, w2.heap.size = q := ⟨_, rfl⟩
  rw [hple] at HV hpl ⊢
  have HPL := Lib.hid hpl
  clear hX02 hv2 hvp hple hpl HM2 HF1 HF2 hw1 HP
  rintro w3 ⟨hM3, hB3, hX3⟩
  have H3 := Lib.hid (And.intro hM3 (And.intro hB3 hX3))
  clear hM3 hB3 hX3
  go_wp2_with fail
  go_loopg [10] (n - 1) (fun g s10 wr => ∃ i : Nat, i + g = n ∧ 1 ≤ i ∧ i ≤ n ∧ s10 = .int .i64 (i : Nat) ∧ MemV wr mb base (X :: nxInit i n) v2 ∧ Blk wr pl (PileV n mb) 175 ∧ Only [mb] w wr)
  case atStart => exact ⟨1, by omega, by omega, by omega, rfl, H3.out.1, H3.out.2.1, H3.out.2.2⟩
  case round =>
    obtain ⟨i, hi, hi1, hi3, rfl, hM, hB, hX⟩ := hrel
    have HI := Lib.hid hi
    have HR := Lib.hid (And.intro hM (And.intro hB hX))
    by_cases hin : i < n
    · have hin' : (i : Int) < (n : Int) := by omega
      have p2 : wr.cell? ⟨pl, 2, none⟩ = some (.int .i64 1) := hB.cell 2 rfl
      have hi2 : i ≤ 4096 := by omega
      have HPU := Lib.hid (mem_putV (a := 1 + i) (x := (i : Int) + 1) hM (by simp [nxInit_length]; omega) (by simp [nxInit_length]; omega))
      have hw1 : IntKind.i64.wrap (1 + (i : Int)) = ((1 + i : Nat) : Int) := by rw [IntWalk.i64_in _ ⟨by omega, by omega⟩]; omega
      clear hi hM hB hX
      go_wp2_with fail
      refine HPU.out.mono ?_
      rintro e w5 ⟨rfl, hM5, hX5⟩
      have hB5 := HR.out.2.1.only hX5 (fun hm => HV.out.2 (by simpa using hm))
      have hX05 := HR.out.2.2.past hX5 (fun b hb => Or.inr (HV.out.1 b (by simpa using hb)))
      have e1 : (X :: nxInit i n).set (1 + i) ((i : Int) + 1) = X :: nxInit (i + 1) n := by
        rw [show 1 + i = i + 1 by omega, List.set_cons_succ, nxInit_set hi1]
      rw [e1] at hM5
      have HR5 := Lib.hid (And.intro hM5 (And.intro hB5 hX05))
      clear hM5 hX5 hB5 hX05 e1 HPU p2 hw1
      go_wp2_with fail
      go_roundg (gk - 1)
      case measure => have := HI.out; omega
      case rel => exact ⟨i + 1, by have := HI.out; omega, by omega, by omega, by rw [show ((i + 1 : Nat) : Int) = (i : Int) + 1 from by omega], HR5.out⟩
    · have hin' : i = n := by omega
      subst hin'
      clear hi hM hB hX
      go_wp2_with fail
      go_ret
      exact ⟨_, _, rfl, HR.out.1, HR.out.2.1, HPL.out, HV.out.2, HV.out.1, HR.out.2.2⟩

end Go.Proofs.YtpknnamficegbaaGreatDoor

namespace Go.Proofs.YtpknnamficegbaaGreatDoor
open Go.RowKit

theorem make_Slots (n : Nat) (h : n ≤ 5000) (w : World) : ∃ c : Array Value, c.size = (n + 1) * 7 ∧ (∀ j, j < (n + 1) * 7 → c[j]? = some (.int .i64 0)) ∧
    ∀ w, (Instr.makeSlice 58 (.int .i64 ((n : Int) + 1)) (.int .i64 ((n : Int) + 1))).run Tryz.prog w = .ok (.slice (some ⟨w.heap.size, 0, none⟩) (n + 1) (n + 1)) (w.alloc (.cells c 64)) := by
  obtain ⟨i, hi, hz, hs, hb⟩ := info_parts (P := Tryz.prog) (e := 64) (z := .agg #[.int .i64 0, .int .i64 0, .int .i64 0, .int .i64 0, .int .i64 0, .int .i64 0, .int .i64 0]) (size := 7) (bytes := 56) (by kernel_rfl)
  have hr := fun w => run_make (P := Tryz.prog) w 58 64 i _ Tryz.underlying58 hi hz .i64 .i64 ((n : Int) + 1) ((n : Int) + 1) (by omega) (Int.le_refl _) (by rw [hb]; omega) (by omega)
  have e : ((n : Int) + 1).toNat = n + 1 := by omega
  rw [e, hs] at hr
  refine ⟨_, ?_, ?_, hr⟩
  · exact size_madeCells _ _
  · intro j hj
    have hm : j % 7 < 7 := Nat.mod_lt _ (by omega)
    have key : ∀ k, k < 7 → (#[Value.int .i64 0, .int .i64 0, .int .i64 0, .int .i64 0, .int .i64 0, .int .i64 0, .int .i64 0] : Array Value)[k]! = .int .i64 0 := by
      intro k hk
      match k, hk with
      | 0, _ => rfl
      | 1, _ => rfl
      | 2, _ => rfl
      | 3, _ => rfl
      | 4, _ => rfl
      | 5, _ => rfl
      | 6, _ => rfl
    unfold madeCells
    rw [Array.getElem?_map, Array.getElem?_range, if_pos hj]
    simp only [Option.map_some, Option.some.injEq]
    exact key (j % 7) hm

theorem flatD_slot0 (j : Nat) : flatD (fun _ => slot0) j = 0 := by
  unfold flatD
  have hm : j % 7 < 7 := Nat.mod_lt _ (by omega)
  generalize j % 7 = k at hm
  match k, hm with
  | 0, _ => rfl
  | 1, _ => rfl
  | 2, _ => rfl
  | 3, _ => rfl
  | 4, _ => rfl
  | 5, _ => rfl
  | 6, _ => rfl

theorem words_made {n j : Nat} (hj : j < 2 * n + 3) : (wd 1 0 :: nxInit n n ++ List.replicate (n + 1) (0 : Int)).getD j 0 = wordsF n 1 0 (nxInit n n) (fun _ => slot0) j := by
  unfold wordsF
  cases j with
  | zero => rfl
  | succ j =>
    rw [if_neg (by omega), List.cons_append, List.getD_cons_succ]
    by_cases h : j + 1 ≤ n + 1
    · rw [if_pos h, show j + 1 - 1 = j by omega, List.getD, List.getElem?_append_left (by rw [nxInit_length]; omega)]
      rfl
    · rw [if_neg h, List.getD, List.getElem?_append_right (by rw [nxInit_length]; omega)]
      rw [List.getElem?_replicate, if_pos (by rw [nxInit_length]; omega)]
      rfl

theorem MemV.at_ {w : World} {mb base n : Nat} {v : Value} (M : MemV w mb base (wd 1 0 :: nxInit n n ++ List.replicate (n + 1) (0 : Int)) v) : ∃ wb cap, v.ownBlock = some wb ∧ base ≤ wb ∧ MemAt w mb wb (2 * n + 3) cap (wordsF n 1 0 (nxInit n n) (fun _ => slot0)) := by
  have hl : (wd 1 0 :: nxInit n n ++ List.replicate (n + 1) (0 : Int)).length = 2 * n + 3 := by simp [nxInit_length]; omega
  have hrow := M.row
  rw [hl] at hrow
  obtain ⟨g, cap, rest, rfl, hb, hc, hm, hB⟩ := own_open hrow (by omega)
  refine ⟨g, cap, rfl, hb, ⟨M.head, ⟨_, hB, by simp [nxInit_length]; omega, fun j hj => ?_⟩, hc, by have := M.low.1; omega⟩⟩
  rw [← words_made hj, List.getElem?_toArray, List.getElem?_append_left (by rw [List.length_map, hl]; exact hj), List.getElem?_map, List.getD]
  rw [List.getElem?_eq_getElem (by rw [hl]; exact hj)]
  rfl

theorem refq_made {W : World} {mb base n r pl sb : Nat} {v : Value} {c : Array Value} (h1 : 1 ≤ n) (h2 : n ≤ 4096) (hM : MemV W mb base (wd 1 0 :: nxInit n n ++ List.replicate (n + 1) (0 : Int)) v) (hB : Blk W pl (PileV n mb) 175) (hR : Blk W r #[.pointer (some ⟨mb, 0, none⟩), .pointer (some ⟨pl, 0, none⟩), .int .i64 ((n : Int) + 2), .int .i64 n, .slice (some ⟨sb, 0, none⟩) (n + 1) (n + 1), .int .i64 0] 131)
    (hS : Blk W sb c 64) (hcs : c.size = (n + 1) * 7) (hcz : ∀ j, j < (n + 1) * 7 → c[j]? = some (.int .i64 0)) (hb : base ≤ pl ∧ base ≤ sb ∧ base ≤ r ∧ r ≠ pl ∧ r ≠ sb ∧ sb ≠ pl) (hv : ∀ b, v.ownBlock = some b → b ≠ pl ∧ b ≠ sb ∧ b ≠ r) :
    ∃ wb cap, RefQ W ⟨r, mb, wb, cap, pl, sb⟩ n (fun _ => slot0) 1 0 (nxInit n n) 0 ∧ v.ownBlock = some wb := by
  obtain ⟨wb, cap, hw, hbw, hA⟩ := hM.at_
  have hl := hM.low.1
  have hd := hv wb hw
  have hr : ∀ j, j ≤ n → 0 ≤ (nxInit n n).getD j 0 ∧ (nxInit n n).getD j 0 ≤ n := fun j hj => by
    rw [nxInit_getD hj]
    split <;> omega
  have q : Rq W pl mb wb cap n 1 0 (nxInit n n) (fun _ => slot0) := ⟨hB, hA, ⟨by omega, by omega⟩, ⟨h1, h2⟩, by omega, h1, nxInit_length _ _, hr⟩
  have ha : r ≠ mb ∧ r ≠ wb ∧ r ≠ pl ∧ r ≠ sb ∧ sb ≠ mb ∧ sb ≠ wb ∧ sb ≠ pl := by omega
  exact ⟨wb, cap, ⟨hR, RowI.of_blk hS hcs (fun j hj => by rw [flatD_slot0]; exact hcz j hj), q, ha⟩, hw⟩

set_option maxHeartbeats 400000 in
theorem ref_new_bad {n : Int} (hn : n < 1 ∨ 4096 < n) (w : World) (mb : Nat) : Calls Tryz.prog 18 #[.pointer (some ⟨mb, 0, none⟩), .int .i64 n] w fun e w' => e = .returned (.pointer none) ∧ w = w' := by
  have HP := Lib.hid (fun w => pile_bad hn w mb)
  clear hn
  go_enter Tryz.func18, Tryz.ntmps18
  go_wp2_with fail
  refine (HP.out _).mono ?_
  rintro e w' ⟨rfl, rfl⟩
  go_wp2_with fail
  go_ret
  exact ⟨rfl, rfl⟩

set_option maxRecDepth 100000 in
set_option maxHeartbeats 2000000 in
theorem ref_new {n : Nat} {w : World} {mb base : Nat} (h1 : 1 ≤ n) (h2 : n ≤ 4096) (M : MemV w mb base [] (.slice none 0 0)) :
    Calls Tryz.prog 18 #[.pointer (some ⟨mb, 0, none⟩), .int .i64 n] w fun e w' => ∃ A : RP, e = .returned (.pointer (some ⟨A.r, 0, none⟩)) ∧ RefQ w' A n (fun _ => slot0) 1 0 (nxInit n n) 0 ∧ A.m = mb ∧ (∀ b, b ∈ A.all → b = mb ∨ w.heap.size ≤ b) ∧ Only [mb] w w' := by
  have HPN := Lib.hid (pile_made h1 h2 M)
  have HLOW := Lib.hid M.low
  obtain ⟨c, hcs, hcz, hmk⟩ := make_Slots n (by omega) w
  have HC := Lib.hid (And.intro hcs hcz)
  clear M hcs hcz
  have hw1 : IntKind.i64.wrap ((n : Int) + 1) = (n : Int) + 1 := IntWalk.i64_in _ ⟨by omega, by omega⟩
  go_enter Tryz.func18, Tryz.ntmps18
  go_wp2_with fail
  refine HPN.out.mono ?_
  rintro e w1 ⟨pl, v, rfl, hM, hB, hpl, hvp, hvo, hX⟩
  have HM1 := Lib.hid hM
  have HB1 := Lib.hid hB
  have HX1 := Lib.hid (And.intro hpl (And.intro hvp (And.intro hvo hX)))
  have HW := Lib.hid (fun W (o : Only [] w1 W) => mem_words (c := n + 1) (x := 0) (hM.only o (by simp) (by simp)) (by simp [nxInit_length]; omega))
  rw [show ((n + 1 : Nat) : Int) = (n : Int) + 1 by omega, show (wd 1 0 :: nxInit n n).length = n + 2 by simp [nxInit_length]] at HW
  clear hM hB hpl hvp hvo hX HPN
  go_upto_region 4 with fail
  go_region_with (first | (go_at_call 70; refine (HW.out w1.drew (Only.drew _ _)).mono ?_; rintro e w2 ⟨v2, rfl, hM2, hX2, ha2⟩) | (go_at_call 70; refine (HW.out (w1.alloc (.cells c 64)).drew ((Only.alloc _ _ _).trans (Only.drew _ _))).mono ?_; rintro e w2 ⟨v2, rfl, hM2, hX2, ha2⟩) | (go_at_call 70; refine (HW.out (w1.drew.alloc (.cells c 64)) ((Only.drew _ _).trans (Only.alloc _ _ _))).mono ?_; rintro e w2 ⟨v2, rfl, hM2, hX2, ha2⟩))
  all_goals go_wp2_with fail
  all_goals go_ret
  · have hs2 : w1.heap.size ≤ w2.heap.size := hX2.size
    have hpl1 := HB1.out.lt
    have hw01 := HX1.out.2.2.2.size
    have hlow := HLOW.out
    have hX1' := HX1.out
    have oF : Only [] w2 ((w2.alloc (.cells c 64)).alloc (.cells #[.pointer (some ⟨mb, 0, none⟩), .pointer (some ⟨pl, 0, none⟩), .int .i64 ((n : Int) + 2), .int .i64 n, .slice (some ⟨w2.heap.size, 0, none⟩) (n + 1) (n + 1), .int .i64 0] 131)) := (Only.alloc _ _ _).trans (Only.alloc _ _ _)
    have hB2 := (HB1.out.only (Only.drew [] w1) (by simp)).only hX2 (fun hm => by
      rcases List.mem_cons.1 hm with hm | hm
      · omega
      · exact hX1'.2.1 (by simpa using hm))
    have hv2 : ∀ b, v2.ownBlock = some b → b ≠ pl ∧ b ≠ w2.heap.size ∧ b ≠ w2.heap.size + 1 := fun b hb => by
      have h3 := (hM2.row.lt b hb).2
      refine ⟨?_, by omega, by omega⟩
      rcases ha2 b hb with h | h
      · intro e
        exact hX1'.2.1 (e ▸ h)
      · have h' : w1.heap.size ≤ b := h
        omega
    obtain ⟨wb, cap, hQ, hwb⟩ := refq_made (r := w2.heap.size + 1) (sb := w2.heap.size) h1 h2 (hM2.only oF (by simp) (by simp)) (hB2.only oF (by simp)) (by
      have := Blk.new (w2.alloc (.cells c 64)) #[.pointer (some ⟨mb, 0, none⟩), .pointer (some ⟨pl, 0, none⟩), .int .i64 ((n : Int) + 2), .int .i64 n, .slice (some ⟨w2.heap.size, 0, none⟩) (n + 1) (n + 1), .int .i64 0] 131
      simpa using this) ((Blk.new w2 c 64).alloc _) HC.out.1 HC.out.2 (by omega) hv2
    refine ⟨_, rfl, hQ, rfl, fun b hb => ?_, ((hX1'.2.2.2.trans (Only.drew _ _)).past hX2 (fun b hb => ?_)).trans (oF.mono (by simp))⟩
    · have hwb1 : w.heap.size ≤ wb := by
        rcases ha2 wb hwb with h | h
        · exact hX1'.2.2.1 wb h
        · have h' : w1.heap.size ≤ wb := h
          omega
      simp [RP.all] at hb
      omega
    · rcases List.mem_cons.1 hb with hb | hb
      · exact Or.inl (by simp [hb])
      · exact Or.inr (hX1'.2.2.1 b (by simpa using hb))
  · have hs2 : w1.heap.size + 1 ≤ w2.heap.size := by have := hX2.size; simpa using this
    have hpl1 := HB1.out.lt
    have hw01 := HX1.out.2.2.2.size
    have hlow := HLOW.out
    have hX1' := HX1.out
    have hvl : ∀ b, v.ownBlock = some b → b < w1.heap.size := fun b hb => (HM1.out.row.lt b hb).2
    have oF : Only [] w2 (w2.alloc (.cells #[.pointer (some ⟨mb, 0, none⟩), .pointer (some ⟨pl, 0, none⟩), .int .i64 ((n : Int) + 2), .int .i64 n, .slice (some ⟨w1.heap.size, 0, none⟩) (n + 1) (n + 1), .int .i64 0] 131)) := Only.alloc _ _ _
    have oS : Only [] w1 (w1.alloc (.cells c 64)).drew := (Only.alloc _ _ _).trans (Only.drew _ _)
    have hB2 := (HB1.out.only oS (by simp)).only hX2 (fun hm => by
      rcases List.mem_cons.1 hm with hm | hm
      · omega
      · exact hX1'.2.1 (by simpa using hm))
    have hS2 := (show Blk (w1.alloc (.cells c 64)).drew w1.heap.size c 64 from Blk.new w1 c 64).only hX2 (fun hm => by
      rcases List.mem_cons.1 hm with hm | hm
      · omega
      · have := hvl _ (by simpa using hm)
        omega)
    have hat : ∀ b, v2.ownBlock = some b → v.ownBlock = some b ∨ w1.heap.size + 1 ≤ b := fun b hb => by
      rcases ha2 b hb with h | h
      · exact Or.inl h
      · right
        have h' : (w1.alloc (.cells c 64)).heap.size ≤ b := h
        simpa using h'
    have hv2 : ∀ b, v2.ownBlock = some b → b ≠ pl ∧ b ≠ w1.heap.size ∧ b ≠ w2.heap.size := fun b hb => by
      have h3 := (hM2.row.lt b hb).2
      rcases hat b hb with h | h
      · have h4 := hvl b h
        exact ⟨fun e => hX1'.2.1 (e ▸ h), by omega, by omega⟩
      · exact ⟨by omega, by omega, by omega⟩
    obtain ⟨wb, cap, hQ, hwb⟩ := refq_made (r := w2.heap.size) (sb := w1.heap.size) h1 h2 (hM2.only oF (by simp) (by simp)) (hB2.only oF (by simp)) (Blk.new _ _ _) (hS2.only oF (by simp)) HC.out.1 HC.out.2 (by omega) hv2
    refine ⟨_, rfl, hQ, rfl, fun b hb => ?_, ((hX1'.2.2.2.trans (oS.mono (by simp))).past hX2 (fun b hb => ?_)).trans (oF.mono (by simp))⟩
    · have hwb1 : w.heap.size ≤ wb := by
        rcases hat wb hwb with h | h
        · exact hX1'.2.2.1 wb h
        · omega
      simp [RP.all] at hb
      omega
    · rcases List.mem_cons.1 hb with hb | hb
      · exact Or.inl (by simp [hb])
      · exact Or.inr (hX1'.2.2.1 b (by simpa using hb))

end Go.Proofs.YtpknnamficegbaaGreatDoor

