/- The statement's function, walked. Conditions: the makers and the calls stand in memory. -/
import Derived.Test.YtbcdkcepgbegjaaLazyQ
import Derived.Deep.CutBlock
import Derived.Deep.RegionHeld3
import Derived.Test.YtbcdkcepgbegjaaQuiet
namespace Go.Proofs.Ytbcdkcepgbegjaa
open Go.RowKit

/-- The cells of the makers that are handed in. -/
def MakersAt (w : World) (mb mo n : Nat) (M : Nat → Mk) : Prop :=
  ∀ i, i < n → w.cell? ⟨mb, mo + i * 3, none⟩ = some (.int .i64 (M i).fails) ∧ w.cell? ⟨mb, mo + i * 3 + 1, none⟩ = some (.bool (M i).falls) ∧ w.cell? ⟨mb, mo + i * 3 + 2, none⟩ = some (.int .i64 (M i).value)

def CallsAt (w : World) (lb lo q : Nat) (C : Nat → Int × Int) : Prop :=
  ∀ i, i < q → w.cell? ⟨lb, lo + i * 5, none⟩ = some (.int .i64 (C i).1) ∧ w.cell? ⟨lb, lo + i * 5 + 1, none⟩ = some (.int .i64 (C i).2)

theorem lt_of_cell {w : World} {b o : Nat} {v : Value} (h : w.cell? ⟨b, o, none⟩ = some v) : b < w.heap.size := by
  unfold World.cell? at h
  split at h
  · rename_i c e fr hb
    exact (Array.getElem?_eq_some_iff.1 hb).1
  · cases h

theorem MakersAt.only {w w' : World} {mb mo n : Nat} {M : Nat → Mk} (h : MakersAt w mb mo n M) (o : Only [] w w') : MakersAt w' mb mo n M := fun i hi => by
  obtain ⟨h1, h2, h3⟩ := h i hi
  have hl := lt_of_cell h1
  exact ⟨(o.cell hl (by simp)).trans h1, (o.cell hl (by simp)).trans h2, (o.cell hl (by simp)).trans h3⟩

theorem CallsAt.only {w w' : World} {lb lo q : Nat} {C : Nat → Int × Int} (h : CallsAt w lb lo q C) (o : Only [] w w') : CallsAt w' lb lo q C := fun i hi => by
  obtain ⟨h1, h2⟩ := h i hi
  have hl := lt_of_cell h1
  exact ⟨(o.cell hl (by simp)).trans h1, (o.cell hl (by simp)).trans h2⟩

theorem info_pRetry : (Try.prog.info? 38).map (fun i => (i.zero, i.size, i.bytes)) = some (some (.pointer none), 1, 8) := by kernel_rfl
theorem info_pCell : (Try.prog.info? 40).map (fun i => (i.zero, i.size, i.bytes)) = some (some (.pointer none), 1, 8) := by kernel_rfl

theorem keep_only {w w' : World} {a : Addr} {v : Value} (h : w.cell? a = some v) (hl : a.block < w.heap.size) (o : Only [] w w') : w'.cell? a = some v := (o.cell hl (by simp)).trans h

set_option maxRecDepth 100000 in
set_option maxHeartbeats 20000000 in
theorem alone_core (n q : Nat) (mb mo mc lb lo : Nat) (la : Option Addr) (lc : Nat) (M : Nat → Mk) (C : Nat → Int × Int) (hn : 1 ≤ n) (hn2 : n ≤ 30) (hq : q ≤ 500) (w : World) (hM : MakersAt w mb mo n M) (hC : CallsAt w lb lo q C) (hla : 0 < q → la = some ⟨lb, lo, none⟩) :
    Calls Try.prog 3 #[.slice (some ⟨mb, mo, none⟩) n mc, .slice la q lc] w fun e w' => e = .returned (.bool true) ∧ Only [] w w' := by
  have hd1 : decide (30 < (n : Int)) = false := by simp; omega
  have hd2 : decide (500 < (q : Int)) = false := by simp; omega
  have hd3 : ((n : Int) == 0) = false := by rw [beq_eq_false_iff_ne]; omega
  have HM := Lib.hid hM
  have HC := Lib.hid hC
  clear hM hC
  go_enter Try.func3, Try.ntmps3
  go_wp2_with fail
  refine (known_true w).mono ?_
  rintro e w0 ⟨rfl, hO0⟩
  have HO0 := Lib.hid hO0
  clear hO0
  go_wp2_with fail
  go_loopg [5, 6, 7, 8, 10, 11, 12, 13] n (fun g s5 s6 s7 s8 s10 s11 s12 s13 wr => ∃ (k : Nat) (ow : Nat → Nat) (ps : Nat → PU) (vs : Nat → Value), k + g = n ∧ s13 = .int .i64 k ∧ s5 = vs 10 ∧ s6 = vs 11 ∧ s7 = vs 12 ∧ s8 = vs 13 ∧ s10 = vs 15 ∧ s11 = vs 16 ∧ s12 = vs 17 ∧
    Bun w.heap.size w0.heap.size k ow wr ps vs (fields ps k) (vs 14) [] ∧ (∀ i, i < k → (ps i).m = M i) ∧ Only [] w wr)
  case atStart =>
    have hl : w.heap.size ≤ w0.heap.size := HO0.out.size
    refine ⟨0, fun _ => 3, fun _ => ⟨⟨0, false, 0⟩, 0, 0, 0, 0, 0, 0, 0, 0, 0, 0⟩, fun _ => .slice none 0 0, by omega, rfl, rfl, rfl, rfl, rfl, rfl, rfl, rfl, ⟨Units.none _ _ _ _ _ _, fun r _ _ => RowO.empty _ _ _ _ _, Blk.new _ _ _, ?_, ⟨fun _ h => absurd h (by simp), At.nil _ _ _ _, List.nodup_nil⟩⟩, fun _ h => absurd h (Nat.not_lt_zero _), HO0.out.trans (Only.alloc _ _ _)⟩
    intro b hb
    simp at hb; subst hb
    exact ⟨hl, by simp, rfl⟩
  case round =>
    obtain ⟨k, ow, ps, vs, hk, rfl, rfl, rfl, rfl, rfl, rfl, rfl, rfl, hB, hps, hO⟩ := hrel
    have HB := Lib.hid hB
    have HO := Lib.hid hO
    have HK := Lib.hid hk
    have HP := Lib.hid hps
    clear hB hO hps
    by_cases hkn : k < n
    · have hki : (k : Int) < n := by omega
      clear hk
      have hsum : IntKind.i64.wrap ((k : Int) + 1) = (k : Int) + 1 := wraps_i64 _ (by omega) (by omega)
      have HS := Lib.hid hsum
      clear hsum
      obtain ⟨m0, m1, m2⟩ := (HM.out.only HO.out) k hkn
      generalize hmk : M k = m at m0 m1 m2
      have HMK := Lib.hid hmk
      clear hmk
      have hmz := lt_of_cell m0
      go_upto_block 1 with fail
      go_cut [5, 6, 7, 8, 10, 11, 12] (fun s5 s6 s7 s8 s10 s11 s12 wc => ∃ (ow : Nat → Nat) (ps : Nat → PU) (vs : Nat → Value), s5 = vs 10 ∧ s6 = vs 11 ∧ s7 = vs 12 ∧ s8 = vs 13 ∧ s10 = vs 15 ∧ s11 = vs 16 ∧ s12 = vs 17 ∧
        Bun w.heap.size w0.heap.size (k + 1) ow wc ps vs (fields ps (k + 1)) (vs 14) [] ∧ (∀ i, i < k + 1 → (ps i).m = M i) ∧ Only [] w wc)
      case first =>
        go_upto_region 12 with fail
        go_cut [14, 15, 16] (fun s14 s15 s16 wc => ∃ (ow' : Nat → Nat) (x y z : Nat), s14 = ptr x ∧ s15 = ptr y ∧ s16 = ptr z ∧ Bun w.heap.size w0.heap.size k ow' wc ps vs (fields ps k) (vs 14) [(x, oneCells m 0, 33), (y, oneCells m 0, 33), (z, oneCells m 0, 33)] ∧ Only [] w wc)
        case first => as_aux_lemma =>
          have H3 := Lib.hid (HB.out.three (oneCells m 0) 33)
          go_region_held3 (fun w' => w'.cell? ⟨mb, mo + k * 3, none⟩ = some (.int .i64 m.fails) ∧ w'.cell? ⟨mb, mo + k * 3 + 1, none⟩ = some (.bool m.falls) ∧ w'.cell? ⟨mb, mo + k * 3 + 2, none⟩ = some (.int .i64 m.value)) (first | exact ⟨m0, m1, m2⟩ | (refine ⟨keep_only m0 hmz ?_, keep_only m1 hmz ?_, keep_only m2 hmz ?_⟩ <;> (repeat (with_reducible first | exact Only.refl _ _ | refine Only.trans ?_ (Only.alloc _ _ _) | refine Only.trans ?_ (Only.drew _ _))))) ((fail))
          all_goals (go_wp2_with fail; go_meet)
          all_goals
            obtain ⟨ow', h3⟩ := H3.out
            refine ⟨ow', _, _, _, rfl, rfl, rfl, h3.perm ?_, (((HO.out.trans (Only.alloc _ _ _)).trans (Only.alloc _ _ _)).trans (Only.alloc _ _ _)).trans (Only.drew _ _)⟩
            first | exact List.Perm.refl _ | exact perm_acb _ _ _ | exact perm_bac _ _ _ | exact perm_bca _ _ _ | exact perm_cab _ _ _ | exact perm_cba _ _ _
        case rest =>
          obtain ⟨ow', x, y, z, rfl, rfl, rfl, hB, hO⟩ := hcut
          clear HB HO m0 m1 m2 hmz
          have HO := Lib.hid hO
          have HB := Lib.hid hB
          clear hO hB
          have HLn := Lib.hid (fun r => fields_length ps k r)
          go_upto_region 13 with fail
          refine three_appends (W := w) (tv := w0.heap.size) (k := k) (ow := ow') (ps := ps) (vs := vs) (Ls := fields ps k) (ns := [(x, oneCells m 0, 33), (y, oneCells m 0, 33), (z, oneCells m 0, 33)]) (x := x) (y := y) (z := z) ?hT rfl rfl rfl rfl rfl rfl rfl (fun r => by rw [HLn.out r]; omega) HB.out HO.out ?_
          case hT => exact ⟨rfl, by kernel_rfl, by kernel_rfl, by kernel_rfl, rfl, rfl, rfl, rfl, rfl, rfl, rfl, rfl, rfl, rfl, rfl, rfl, rfl, rfl, rfl⟩
          intro a wc ow' v12 v13 v14 hfr h7 h8 hB hO
          clear HO HB
          have HO := Lib.hid hO
          have HB := Lib.hid hB
          clear hO hB
          have ha := hfr.eq
          clear hfr
          rw [triS] at ha
          simp only [List.foldl_cons, List.foldl_nil, h7, h8] at ha
          generalize sl a 71 = u71 at ha
          generalize sl a 72 = u72 at ha
          generalize sl a 73 = u73 at ha
          generalize sl a 74 = u74 at ha
          generalize sl a 75 = u75 at ha
          generalize sl a 76 = u76 at ha
          generalize sl a 77 = u77 at ha
          generalize sl a 78 = u78 at ha
          generalize sl a 79 = u79 at ha
          generalize sl a 80 = u80 at ha
          generalize sl a 81 = u81 at ha
          generalize sl a 82 = u82 at ha
          clear h7 h8
          simp only [List.setIfInBounds_toArray, List.set_cons_zero, List.set_cons_succ] at ha
          subst ha
          go_wp2_with fail
          refine (one_closure x wc).mono ?_
          rintro e w1 ⟨rfl, hw2⟩
          obtain ⟨ow2, hb2⟩ := (HB.out.make_ex (w' := w1) (b := wc.heap.size) (cs := #[ptr x]) (T := 29) (Nat.le_refl _) (by rw [← hw2]; exact Only.alloc _ _ _) (by rw [← hw2]; exact Blk.new _ _ _))
          have HO2 := Lib.hid (HO.out.trans (show Only [] wc w1 by rw [← hw2]; exact Only.alloc _ _ _))
          have HB2 := Lib.hid hb2
          clear HB HO hw2 hb2
          generalize wc.heap.size = bx at *
          clear ow' wc
          go_wp2_with fail
          refine (new_once 21 #[.pointer (some ⟨bx, 0, none⟩)] w1).mono ?_
          rintro e w3 ⟨rfl, hw2⟩
          obtain ⟨ow4, hb4⟩ := (HB2.out.make_ex (w' := w3) (b := w1.heap.size) (cs := (onceCells (oneFn bx) 0 0 0 0 false)) (T := 76) (Nat.le_refl _) (by rw [← hw2]; exact Only.alloc _ _ _) (by rw [← hw2]; exact Blk.new _ _ _))
          have HO4 := Lib.hid (HO2.out.trans (show Only [] w1 w3 by rw [← hw2]; exact Only.alloc _ _ _))
          have HB4 := Lib.hid hb4
          clear HB2 HO2 hw2 hb4
          generalize w1.heap.size = o at *
          clear ow2 w1
          obtain ⟨i0, hi0, hz0, hz1, hz2⟩ := info_parts info_pOnce
          have HROW := Lib.hid (show RowO w.heap.size ow4 10 (w3.alloc (.cells #[ptr o] 34)) 34 (vs 10) ((fields ps k 10).map ptr) from (HB4.out.junk (Only.alloc [] w3 (.cells #[ptr o] 34))).rows 10 (by decide) (by decide))
          have HLOW := Lib.hid (HB4.out.junk (Only.alloc [] w3 (.cells #[ptr o] 34))).low
          go_wp2_with (at_builtin; refine RowO.appendList rfl (.tmp 83) (.tmp 87) 25 rfl w.heap.size ow4 10 34 i0 _ 8 Try.underlying25 hi0 hz0 hz1 hz2 rfl (vs 10) _ rfl HROW.out ⟨w3.heap.size, 0, none⟩ 1 (ptr o) rfl ((Blk.new _ _ _).cell 0 rfl) rfl (by rw [List.length_map, HLn.out]; unfold maxLen; omega) (by rw [List.length_map, HLn.out]; omega) HLOW.out ?_)
          intro v10 w5 hr hOO
          obtain ⟨ow5, hb5⟩ := ((HB4.out.junk (Only.alloc [] w3 (.cells #[ptr o] 34))).app_ex 10 (by decide) (by decide) (b := o) hOO hr)
          have HB5 := Lib.hid hb5
          have HO5 := Lib.hid ((HO4.out.trans (Only.alloc [] w3 (.cells #[ptr o] 34))).past hOO (fun b hb => Or.inr (HROW.out.lies b hb).1))
          clear HB4 HO4 hr hOO HROW HLOW hb5
          generalize w3.heap.size = tm5
          clear ow4 w3 hi0 hz0 hz1 hz2
          clear i0
          go_wp2_with fail
          refine (one_closure y w5).mono ?_
          rintro e w6 ⟨rfl, hw2⟩
          obtain ⟨ow7, hb7⟩ := (HB5.out.make_ex (w' := w6) (b := w5.heap.size) (cs := #[ptr y]) (T := 29) (Nat.le_refl _) (by rw [← hw2]; exact Only.alloc _ _ _) (by rw [← hw2]; exact Blk.new _ _ _))
          have HO7 := Lib.hid (HO5.out.trans (show Only [] w5 w6 by rw [← hw2]; exact Only.alloc _ _ _))
          have HB7 := Lib.hid hb7
          clear HB5 HO5 hw2 hb7
          generalize w5.heap.size = bY at *
          clear ow5 w5
          go_wp2_with fail
          refine (new_retry 21 #[.pointer (some ⟨bY, 0, none⟩)] w6).mono ?_
          rintro e w8 ⟨rfl, hw2⟩
          obtain ⟨ow9, hb9⟩ := (HB7.out.make_ex (w' := w8) (b := w6.heap.size) (cs := (retryCells (oneFn bY) 0 none)) (T := 84) (Nat.le_refl _) (by rw [← hw2]; exact Only.alloc _ _ _) (by rw [← hw2]; exact Blk.new _ _ _))
          have HO9 := Lib.hid (HO7.out.trans (show Only [] w6 w8 by rw [← hw2]; exact Only.alloc _ _ _))
          have HB9 := Lib.hid hb9
          clear HB7 HO7 hw2 hb9
          generalize w6.heap.size = r at *
          clear ow7 w6
          obtain ⟨i0, hi0, hz0, hz1, hz2⟩ := info_parts info_pRetry
          have HROW := Lib.hid (show RowO w.heap.size ow9 11 (w8.alloc (.cells #[ptr r] 38)) 38 (vs 11) ((fields ps k 11).map ptr) from (HB9.out.junk (Only.alloc [] w8 (.cells #[ptr r] 38))).rows 11 (by decide) (by decide))
          have HLOW := Lib.hid (HB9.out.junk (Only.alloc [] w8 (.cells #[ptr r] 38))).low
          go_wp2_with (at_builtin; refine RowO.appendList rfl (.tmp 89) (.tmp 93) 26 rfl w.heap.size ow9 11 38 i0 _ 8 Try.underlying26 hi0 hz0 hz1 hz2 rfl (vs 11) _ rfl HROW.out ⟨w8.heap.size, 0, none⟩ 1 (ptr r) rfl ((Blk.new _ _ _).cell 0 rfl) rfl (by rw [List.length_map, HLn.out]; unfold maxLen; omega) (by rw [List.length_map, HLn.out]; omega) HLOW.out ?_)
          intro v11 w10 hr hOO
          obtain ⟨ow10, hb10⟩ := ((HB9.out.junk (Only.alloc [] w8 (.cells #[ptr r] 38))).app_ex 11 (by decide) (by decide) (b := r) hOO hr)
          have HB10 := Lib.hid hb10
          have HO10 := Lib.hid ((HO9.out.trans (Only.alloc [] w8 (.cells #[ptr r] 38))).past hOO (fun b hb => Or.inr (HROW.out.lies b hb).1))
          clear HB9 HO9 hr hOO HROW HLOW hb10
          generalize w8.heap.size = tm10
          clear ow9 w8 hi0 hz0 hz1 hz2
          clear i0
          obtain ⟨m0, m1, m2⟩ := (HM.out.only HO10.out) k hkn
          rw [HMK.out] at m0 m1 m2
          obtain ⟨i0, hi0, hz0, hz1, hz2⟩ := info_parts info_pCell
          obtain ⟨ow11, hb11⟩ := HB10.out.make_ex (w' := (w10.alloc (.cells (cellCells m true 0 false false 0 0) 42))) (b := w10.heap.size) (cs := cellCells m true 0 false false 0 0) (T := 42) (Nat.le_refl _) (Only.alloc _ _ _) (Blk.new _ _ _)
          have HC11 := Lib.hid hb11
          have HROW := Lib.hid (show RowO w.heap.size ow11 15 ((w10.alloc (.cells (cellCells m true 0 false false 0 0) 42)).alloc (.cells #[ptr w10.heap.size] 40)) 40 (vs 15) ((fields ps k 15).map ptr) from (hb11.junk (Only.alloc [] (w10.alloc (.cells (cellCells m true 0 false false 0 0) 42)) (.cells #[ptr w10.heap.size] 40))).rows 15 (by decide) (by decide))
          have HLOW := Lib.hid (hb11.junk (Only.alloc [] (w10.alloc (.cells (cellCells m true 0 false false 0 0) 42)) (.cells #[ptr w10.heap.size] 40))).low
          have HNEW := Lib.hid (show ((w10.alloc (.cells (cellCells m true 0 false false 0 0) 42)).alloc (.cells #[ptr w10.heap.size] 40)).cell? ⟨w10.heap.size + 1, 0, none⟩ = some (ptr w10.heap.size) by have := (Blk.new (w10.alloc (.cells (cellCells m true 0 false false 0 0) 42)) #[ptr w10.heap.size] 40).cell 0 rfl; rwa [show ((w10.alloc (.cells (cellCells m true 0 false false 0 0) 42))).heap.size = w10.heap.size + 1 by simp] at this)
          clear hb11 HB10
          go_wp2_with (at_builtin; refine RowO.appendList rfl (.tmp 95) (.tmp 102) 28 rfl w.heap.size ow11 15 40 i0 _ 8 Try.underlying28 hi0 hz0 hz1 hz2 rfl (vs 15) _ rfl HROW.out ⟨w10.heap.size + 1, 0, none⟩ 1 (ptr w10.heap.size) rfl HNEW.out rfl (by rw [List.length_map, HLn.out]; unfold maxLen; omega) (by rw [List.length_map, HLn.out]; omega) HLOW.out ?_)
          intro v15 w11 hr hOO
          obtain ⟨ow11', hb11⟩ := ((HC11.out.junk (Only.alloc [] (w10.alloc (.cells (cellCells m true 0 false false 0 0) 42)) (.cells #[ptr w10.heap.size] 40))).app_ex 15 (by decide) (by decide) (b := w10.heap.size) hOO hr)
          have HB11 := Lib.hid hb11
          have HO11 := Lib.hid ((((HO10.out.trans (Only.alloc [] w10 (.cells (cellCells m true 0 false false 0 0) 42))).trans (Only.alloc [] (w10.alloc (.cells (cellCells m true 0 false false 0 0) 42)) (.cells #[ptr w10.heap.size] 40)))).past hOO (fun b hb => Or.inr (HROW.out.lies b hb).1))
          clear HC11 HO10 hr hOO HROW HLOW HNEW hb11 m0 m1 m2 hi0 hz0 hz1 hz2
          clear i0
          generalize w10.heap.size = ca at *
          clear w10 ow11 ow10
          obtain ⟨m0, m1, m2⟩ := (HM.out.only HO11.out) k hkn
          rw [HMK.out] at m0 m1 m2
          obtain ⟨i0, hi0, hz0, hz1, hz2⟩ := info_parts info_pCell
          obtain ⟨ow12, hb12⟩ := HB11.out.make_ex (w' := (w11.alloc (.cells (cellCells m false 0 false false 0 0) 42))) (b := w11.heap.size) (cs := cellCells m false 0 false false 0 0) (T := 42) (Nat.le_refl _) (Only.alloc _ _ _) (Blk.new _ _ _)
          have HC12 := Lib.hid hb12
          have HROW := Lib.hid (show RowO w.heap.size ow12 16 ((w11.alloc (.cells (cellCells m false 0 false false 0 0) 42)).alloc (.cells #[ptr w11.heap.size] 40)) 40 (vs 16) ((fields ps k 16).map ptr) from (hb12.junk (Only.alloc [] (w11.alloc (.cells (cellCells m false 0 false false 0 0) 42)) (.cells #[ptr w11.heap.size] 40))).rows 16 (by decide) (by decide))
          have HLOW := Lib.hid (hb12.junk (Only.alloc [] (w11.alloc (.cells (cellCells m false 0 false false 0 0) 42)) (.cells #[ptr w11.heap.size] 40))).low
          have HNEW := Lib.hid (show ((w11.alloc (.cells (cellCells m false 0 false false 0 0) 42)).alloc (.cells #[ptr w11.heap.size] 40)).cell? ⟨w11.heap.size + 1, 0, none⟩ = some (ptr w11.heap.size) by have := (Blk.new (w11.alloc (.cells (cellCells m false 0 false false 0 0) 42)) #[ptr w11.heap.size] 40).cell 0 rfl; rwa [show ((w11.alloc (.cells (cellCells m false 0 false false 0 0) 42))).heap.size = w11.heap.size + 1 by simp] at this)
          clear hb12 HB11
          go_wp2_with (at_builtin; refine RowO.appendList rfl (.tmp 104) (.tmp 111) 28 rfl w.heap.size ow12 16 40 i0 _ 8 Try.underlying28 hi0 hz0 hz1 hz2 rfl (vs 16) _ rfl HROW.out ⟨w11.heap.size + 1, 0, none⟩ 1 (ptr w11.heap.size) rfl HNEW.out rfl (by rw [List.length_map, HLn.out]; unfold maxLen; omega) (by rw [List.length_map, HLn.out]; omega) HLOW.out ?_)
          intro v16 w12 hr hOO
          obtain ⟨ow12', hb12⟩ := ((HC12.out.junk (Only.alloc [] (w11.alloc (.cells (cellCells m false 0 false false 0 0) 42)) (.cells #[ptr w11.heap.size] 40))).app_ex 16 (by decide) (by decide) (b := w11.heap.size) hOO hr)
          have HB12 := Lib.hid hb12
          have HO12 := Lib.hid ((((HO11.out.trans (Only.alloc [] w11 (.cells (cellCells m false 0 false false 0 0) 42))).trans (Only.alloc [] (w11.alloc (.cells (cellCells m false 0 false false 0 0) 42)) (.cells #[ptr w11.heap.size] 40)))).past hOO (fun b hb => Or.inr (HROW.out.lies b hb).1))
          clear HC12 HO11 hr hOO HROW HLOW HNEW hb12 m0 m1 m2 hi0 hz0 hz1 hz2
          clear i0
          generalize w11.heap.size = cb at *
          clear w11 ow12 ow11'
          obtain ⟨m0, m1, m2⟩ := (HM.out.only HO12.out) k hkn
          rw [HMK.out] at m0 m1 m2
          obtain ⟨i0, hi0, hz0, hz1, hz2⟩ := info_parts info_pCell
          obtain ⟨ow13, hb13⟩ := HB12.out.make_ex (w' := (w12.alloc (.cells (cellCells m true 0 false false 0 0) 42))) (b := w12.heap.size) (cs := cellCells m true 0 false false 0 0) (T := 42) (Nat.le_refl _) (Only.alloc _ _ _) (Blk.new _ _ _)
          have HC13 := Lib.hid hb13
          have HROW := Lib.hid (show RowO w.heap.size ow13 17 ((w12.alloc (.cells (cellCells m true 0 false false 0 0) 42)).alloc (.cells #[ptr w12.heap.size] 40)) 40 (vs 17) ((fields ps k 17).map ptr) from (hb13.junk (Only.alloc [] (w12.alloc (.cells (cellCells m true 0 false false 0 0) 42)) (.cells #[ptr w12.heap.size] 40))).rows 17 (by decide) (by decide))
          have HLOW := Lib.hid (hb13.junk (Only.alloc [] (w12.alloc (.cells (cellCells m true 0 false false 0 0) 42)) (.cells #[ptr w12.heap.size] 40))).low
          have HNEW := Lib.hid (show ((w12.alloc (.cells (cellCells m true 0 false false 0 0) 42)).alloc (.cells #[ptr w12.heap.size] 40)).cell? ⟨w12.heap.size + 1, 0, none⟩ = some (ptr w12.heap.size) by have := (Blk.new (w12.alloc (.cells (cellCells m true 0 false false 0 0) 42)) #[ptr w12.heap.size] 40).cell 0 rfl; rwa [show ((w12.alloc (.cells (cellCells m true 0 false false 0 0) 42))).heap.size = w12.heap.size + 1 by simp] at this)
          clear hb13 HB12
          go_wp2_with (at_builtin; refine RowO.appendList rfl (.tmp 113) (.tmp 120) 28 rfl w.heap.size ow13 17 40 i0 _ 8 Try.underlying28 hi0 hz0 hz1 hz2 rfl (vs 17) _ rfl HROW.out ⟨w12.heap.size + 1, 0, none⟩ 1 (ptr w12.heap.size) rfl HNEW.out rfl (by rw [List.length_map, HLn.out]; unfold maxLen; omega) (by rw [List.length_map, HLn.out]; omega) HLOW.out ?_)
          intro v17 w13 hr hOO
          obtain ⟨ow13', hb13⟩ := ((HC13.out.junk (Only.alloc [] (w12.alloc (.cells (cellCells m true 0 false false 0 0) 42)) (.cells #[ptr w12.heap.size] 40))).app_ex 17 (by decide) (by decide) (b := w12.heap.size) hOO hr)
          have HB13 := Lib.hid hb13
          have HO13 := Lib.hid ((((HO12.out.trans (Only.alloc [] w12 (.cells (cellCells m true 0 false false 0 0) 42))).trans (Only.alloc [] (w12.alloc (.cells (cellCells m true 0 false false 0 0) 42)) (.cells #[ptr w12.heap.size] 40)))).past hOO (fun b hb => Or.inr (HROW.out.lies b hb).1))
          clear HC13 HO12 hr hOO HROW HLOW HNEW hb13 m0 m1 m2 hi0 hz0 hz1 hz2
          clear i0
          generalize w12.heap.size = cc at *
          clear w12 ow13 ow12'
          go_wp2_with fail
          go_meet
          case rel =>
            have hu := Bun.unit ⟨m, x, y, z, bx, o, bY, r, ca, cb, cc⟩ HB13.out
            refine ⟨_, upU ps k ⟨m, x, y, z, bx, o, bY, r, ca, cb, cc⟩, _, rfl, rfl, rfl, rfl, rfl, rfl, rfl, hu.congr ?_, ?_, HO13.out⟩
            · intro q h1 h2
              rcases (show q = 10 ∨ q = 11 ∨ q = 12 ∨ q = 13 ∨ q = 14 ∨ q = 15 ∨ q = 16 ∨ q = 17 by omega) with rfl | rfl | rfl | rfl | rfl | rfl | rfl | rfl <;> (rw [fields_snoc]; rfl)
            · intro i hi
              by_cases hik : i = k
              · subst hik; rw [upU_same, HMK.out]
              · rw [upU_other _ _ hik]; exact HP.out i (by omega)
      case rest =>
        obtain ⟨ow', ps', vs', rfl, rfl, rfl, rfl, rfl, rfl, rfl, hB, hp, hO⟩ := hcut
        have HB2 := Lib.hid hB
        have HO2 := Lib.hid hO
        have HP2 := Lib.hid hp
        clear hB hO hp m0 m1 m2
        go_wp2_with fail
        go_roundg (gk - 1)
        case measure => have := HK.out; omega
        case rel => exact ⟨k + 1, ow', ps', vs', by have := HK.out; omega, by go_num, rfl, rfl, rfl, rfl, rfl, rfl, rfl, HB2.out, HP2.out, HO2.out⟩
    · as_aux_lemma =>
      have hkn' : k = n := by omega
      subst hkn'
      clear hk
      have hmf : ∀ (fn : Fn) (first cap : Array Value) (w : World), (Instr.makeFunc fn first cap).run Try.prog w = .ok (.func fn first cap) w := fun _ _ _ _ => rfl
      obtain ⟨g, cp, hv⟩ := HB.out.slices (by omega)
      have HV := Lib.hid hv
      rw [hv 10 (by decide) (by decide), hv 11 (by decide) (by decide), hv 12 (by decide) (by decide), hv 13 (by decide) (by decide), hv 15 (by decide) (by decide), hv 16 (by decide) (by decide), hv 17 (by decide) (by decide)]
      clear hv
      go_wp2_with fail
      refine (new_table k (by omega) (by omega) 9 #[.pointer (some ⟨w0.heap.size, 0, none⟩)] wr).mono ?_
      rintro e w1 ⟨tb, fb, vt, ow1, ts, rfl, hT, hO1⟩
      obtain ⟨adt, ct, rfl⟩ := hT.row.slice' (m := k) (by simp [tptrs])
      obtain ⟨gt, rfl, hjunk⟩ := hT.row.at (by simp [tptrs]; omega)
      clear hjunk
      obtain ⟨ow2, hM⟩ := main_start HB.out HV.out hT hO1 HO.out
      have HMA := Lib.hid hM
      have HPS := Lib.hid (fun i (hi : i < k) => HP.out i hi)
      clear hT hO1 hM HB HO HV HP
      clear hmf
      go_wp2_with fail
      go_loopg [19] q (fun g' s19 wr => ∃ (j : Nat) (ow : Nat → Nat) (ss : Nat → St), j + g' = q ∧ s19 = .int .i64 j ∧ Main w w0.heap.size tb fb k g cp gt ct ps ts ow wr ss ∧ (∀ i, i < k → Sync (ss i)) ∧ (∀ i, (ss i).n ≤ j))
      case atStart => exact ⟨0, ow2, fun _ => st0, by omega, rfl, HMA.out, fun _ _ => sync0, fun _ => by simp [st0]⟩
      case round =>
        clear HMA ow2
        obtain ⟨j, ow2, ss, hj, rfl, hM, hsy, hcn⟩ := hrel
        have HMA := Lib.hid hM
        have HJ := Lib.hid hj
        have HSY := Lib.hid hsy
        have HCN := Lib.hid hcn
        clear hM hsy hcn
        by_cases hjq : j < q
        · as_aux_lemma =>
          obtain rfl := hla (by omega)
          have hji : (j : Int) < q := by omega
          clear hj
          obtain ⟨l0, l1⟩ := (HC.out.only HMA.out.old) j hjq
          generalize (C j).1 = kind at l0
          generalize (C j).2 = A at l1
          obtain ⟨hp1, hp2, hp3⟩ := place_in A k hn hn2
          go_upto_if 150 with fail
          generalize A.tmod (k : Int) = T at *
          go_cut [20] (fun s20 wc => wc = wr ∧ ∃ i : Nat, i < k ∧ s20 = .int .i64 i)
          case first =>
            by_cases hT : T < 0
            · have hd : decide (T < 0) = true := by simpa using hT
              go_wp2_with fail
              go_meet
              case rel => exact ⟨rfl, (T + k).toNat, by omega, by rw [Int.toNat_of_nonneg (by omega)]⟩
            · have hd : decide (T < 0) = false := by simpa using hT
              go_wp2_with fail
              go_meet
              case rel => exact ⟨rfl, T.toNat, by omega, by rw [Int.toNat_of_nonneg (by omega)]⟩
          case rest =>
            obtain ⟨rfl, i, hik, rfl⟩ := hcut
            clear hp1 hp2 hp3 l1
            have hin : (i : Int) < k := by omega
            have r10 : wc.cell? ⟨g 10, i, none⟩ = some (.pointer (some ⟨(ps i).o, 0, none⟩)) := HMA.out.cell hik 10 (by decide) (by decide)
            have r11 : wc.cell? ⟨g 11, i, none⟩ = some (.pointer (some ⟨(ps i).r, 0, none⟩)) := HMA.out.cell hik 11 (by decide) (by decide)
            go_upto_block 4 with fail
            go_cut [21, 22, 23, 24] (fun s21 s22 s23 s24 wd => ∃ (v f : Int) (ow' : Nat → Nat) (ss' : Nat → St), s21 = .int .i64 v ∧ s22 = .int .i64 f ∧ s23 = .int .i64 v ∧ s24 = .int .i64 f ∧ Main w w0.heap.size tb fb k g cp gt ct ps ts ow' wd ss' ∧ Even k ss' (j + 1))
            case first => as_aux_lemma =>
              have HEV := Lib.hid (show Even k ss j from ⟨HSY.out, HCN.out⟩)
              have hj5 : j ≤ 500 := by omega
              by_cases h1 : kind = 1
              · subst h1
                clear l0
                go_wp2_with fail
                refine (m_once HMA.out hik).mono ?_
                rintro e w2 ⟨rfl, hM⟩
                have HM2 := Lib.hid hM
                have r15 : w2.cell? ⟨g 15, i, none⟩ = some (.pointer (some ⟨(ps i).a, 0, none⟩)) := hM.cell hik 15 (by decide) (by decide)
                clear hM r10 r11
                go_wp2_with fail
                refine (r_refA HM2.out hik HEV.out).mono ?_
                rintro e w3 ⟨rfl, ow3, ss3, hM, he⟩
                have HM3 := Lib.hid hM
                have HE3 := Lib.hid he
                clear hM he HM2 r15
                go_wp2_with fail
                go_meet
                case rel => exact ⟨_, _, ow3, ss3, rfl, rfl, rfl, rfl, HM3.out, HE3.out⟩
              · by_cases h2 : kind = 2
                · subst h2
                  clear h1 l0
                  go_wp2_with fail
                  refine (m_retry HMA.out hik (by have := HCN.out i; omega)).mono ?_
                  rintro e w2 ⟨ow2', kp', rfl, hkp, hM⟩
                  have HM2 := Lib.hid hM
                  have HKP := Lib.hid hkp
                  have r16 : w2.cell? ⟨g 16, i, none⟩ = some (.pointer (some ⟨(ps i).b, 0, none⟩)) := hM.cell hik 16 (by decide) (by decide)
                  clear hM hkp r10 r11
                  go_wp2_with fail
                  refine (r_refB HM2.out hik HEV.out HKP.out (by omega)).mono ?_
                  rintro e w3 ⟨rfl, ow3, ss3, hM, he⟩
                  have HM3 := Lib.hid hM
                  have HE3 := Lib.hid he
                  clear hM he HM2 r16
                  go_wp2_with fail
                  go_meet
                  case rel => exact ⟨_, _, ow3, ss3, rfl, rfl, rfl, rfl, HM3.out, HE3.out⟩
                · by_cases h3 : kind = 3
                  · subst h3
                    clear h1 h2 l0
                    go_wp2_with fail
                    refine (m_table HMA.out hik).mono ?_
                    rintro e w2 ⟨rfl, hM⟩
                    have HM2 := Lib.hid hM
                    have r17 : w2.cell? ⟨g 17, i, none⟩ = some (.pointer (some ⟨(ps i).c, 0, none⟩)) := hM.cell hik 17 (by decide) (by decide)
                    clear hM r10 r11
                    go_wp2_with fail
                    refine (r_refC HM2.out hik HEV.out).mono ?_
                    rintro e w3 ⟨rfl, ow3, ss3, hM, he⟩
                    have HM3 := Lib.hid hM
                    have HE3 := Lib.hid he
                    clear hM he HM2 r17
                    go_wp2_with fail
                    go_meet
                    case rel => exact ⟨_, _, ow3, ss3, rfl, rfl, rfl, rfl, HM3.out, HE3.out⟩
                  · have d1 : (kind == 1) = false := beq_eq_false_iff_ne.2 h1
                    have d2 : (kind == 2) = false := beq_eq_false_iff_ne.2 h2
                    have d3 : (kind == 3) = false := beq_eq_false_iff_ne.2 h3
                    clear h1 h2 h3 l0
                    go_wp2_with fail
                    go_meet
                    case rel => exact ⟨0, 0, ow2, ss, rfl, rfl, rfl, rfl, HMA.out, HEV.out.1, fun i => by have := HEV.out.2 i; omega⟩
            case rest =>
              obtain ⟨v, f, ow3, ss3, rfl, rfl, rfl, rfl, hM, he⟩ := hcut
              have F := hM.finds hik (he.1 i hik)
              have HD1 := Lib.hid (fun nq => (m_onceDone (hM.junk (Only.drewN [] wc nq)) hik).mono (fun _ _ h => And.intro h.1 h.2.symm))
              have HD2 := Lib.hid (fun nq => (m_retryDone (hM.junk (Only.drewN [] wc nq)) hik).mono (fun _ _ h => And.intro h.1 h.2.symm))
              have r10 : wc.cell? ⟨g 10, i, none⟩ = some (.pointer (some ⟨(ps i).o, 0, none⟩)) := hM.cell hik 10 (by decide) (by decide)
              have r11 : wc.cell? ⟨g 11, i, none⟩ = some (.pointer (some ⟨(ps i).r, 0, none⟩)) := hM.cell hik 11 (by decide) (by decide)
              have r12 : wc.cell? ⟨g 12, i, none⟩ = some (.pointer (some ⟨(ps i).x, 0, none⟩)) := hM.cell hik 12 (by decide) (by decide)
              have r13 : wc.cell? ⟨g 13, i, none⟩ = some (.pointer (some ⟨(ps i).y, 0, none⟩)) := hM.cell hik 13 (by decide) (by decide)
              have r14 : wc.cell? ⟨g 14, i, none⟩ = some (.pointer (some ⟨(ps i).z, 0, none⟩)) := hM.cell hik 14 (by decide) (by decide)
              have r15 : wc.cell? ⟨g 15, i, none⟩ = some (.pointer (some ⟨(ps i).a, 0, none⟩)) := hM.cell hik 15 (by decide) (by decide)
              have r16 : wc.cell? ⟨g 16, i, none⟩ = some (.pointer (some ⟨(ps i).b, 0, none⟩)) := hM.cell hik 16 (by decide) (by decide)
              have r17 : wc.cell? ⟨g 17, i, none⟩ = some (.pointer (some ⟨(ps i).c, 0, none⟩)) := hM.cell hik 17 (by decide) (by decide)
              have rv : wc.cell? ⟨w0.heap.size, 0, none⟩ = some (.slice (some ⟨g 14, 0, none⟩) k (cp 14)) := hM.var.cell 0 rfl
              have HM3 := Lib.hid hM
              have HE3 := Lib.hid he
              clear hM he HMA HSY HCN
              generalize ((ss3 i).aO && ((ps i).m.out 1).well) = e1 at HD1 F
              generalize (ss3 i).kp.isSome = e2 at HD2 F
              generalize cnt (ss3 i).aO = c1 at F
              generalize ((ss3 i).n : Int) = c2 at F
              generalize cnt (ss3 i).aT = c3 at F
              obtain ⟨f1, f2, f3, f4, f5, f6, f7, f8⟩ := F
              go_upto_region 41 with fail
              go_cut [312] (fun s312 wd => s312 = .bool false ∧ ∃ nq, wd = World.drewN wc nq)
              case first =>
                rename_i J' K' hJ hMet
                as_aux_lemma =>
                  refine wp_region_quiet_lit (by kernel_rfl) (by kernel_rfl) ?_
                  refine q_start 224 312 [(5, .slice (some ⟨g 10, 0, none⟩) k (cp 10)), (6, .slice (some ⟨g 11, 0, none⟩) k (cp 11)), (7, .slice (some ⟨g 12, 0, none⟩) k (cp 12)), (8, .slice (some ⟨g 13, 0, none⟩) k (cp 13)), (9, .pointer (some ⟨w0.heap.size, 0, none⟩)), (10, .slice (some ⟨g 15, 0, none⟩) k (cp 15)), (11, .slice (some ⟨g 16, 0, none⟩) k (cp 16)), (12, .slice (some ⟨g 17, 0, none⟩) k (cp 17)), (20, .int .i64 i), (21, .int .i64 v), (22, .int .i64 f), (23, .int .i64 v), (24, .int .i64 f)] ⟨by kernel_rfl, by kernel_rfl, by kernel_rfl, by kernel_rfl, by kernel_rfl, by kernel_rfl, by kernel_rfl, by kernel_rfl, by kernel_rfl, by kernel_rfl, by kernel_rfl, by kernel_rfl, by kernel_rfl, trivial⟩ (by kernel_rfl) (by kernel_rfl) ?_
                  intro _ hK
                  repeat (first | (refine q_move hK (by kernel_rfl) rfl (by kernel_rfl) rfl rfl ?_; clear hK; intro _ hK) | (refine q_nil hK (by kernel_rfl) rfl (by kernel_rfl) rfl rfl ?_; clear hK; intro _ hK) | (refine q_pick_f hK (by kernel_rfl) rfl (by kernel_rfl) rfl rfl rfl ?_; clear hK; intro _ hK) | (refine q_load (v := ?_) hK (by kernel_rfl) rfl (by kernel_rfl) rfl rfl ?_ ?_; rotate_left; (next => (intro _ hw; obtain ⟨_, rfl⟩ := hw; go_simp; try rfl)); clear hK; intro _ hK) | (refine q_field (v := ?_) hK (by kernel_rfl) rfl (by kernel_rfl) rfl rfl ?_ ?_; rotate_left; (next => (intro _ hw; obtain ⟨_, rfl⟩ := hw; go_simp; try rfl)); clear hK; intro _ hK) | (refine q_index (v := ?_) hK (by kernel_rfl) rfl (by kernel_rfl) rfl rfl rfl ?_ ?_; rotate_left; (next => (intro _ hw; obtain ⟨_, rfl⟩ := hw; go_simp; try rfl)); clear hK; intro _ hK) | (refine q_bin (v := ?_) hK (by kernel_rfl) rfl (by kernel_rfl) rfl rfl rfl ?_ ?_; rotate_left; (next => (intro _ hw; obtain ⟨_, rfl⟩ := hw; go_simp; try rfl)); clear hK; intro _ hK))
                  refine q_call (f := 14) (args := #[.pointer (some ⟨(ps i).o, 0, none⟩), .pointer none]) hK (by kernel_rfl) rfl (by kernel_rfl) (fun _ => by have e := hK.k.ev (s := 236) rfl; simp only [Act.eval, Array.getD_eq_getD_getElem?] at e; go_simp) (fun w' hw => by obtain ⟨n, rfl⟩ := hw; exact Calls.quiet_of_same (HD1.out _)) ?_
                  clear hK; intro _ hK
                  repeat (first | (refine q_move hK (by kernel_rfl) rfl (by kernel_rfl) rfl rfl ?_; clear hK; intro _ hK) | (refine q_nil hK (by kernel_rfl) rfl (by kernel_rfl) rfl rfl ?_; clear hK; intro _ hK) | (refine q_pick_f hK (by kernel_rfl) rfl (by kernel_rfl) rfl rfl rfl ?_; clear hK; intro _ hK) | (refine q_load (v := ?_) hK (by kernel_rfl) rfl (by kernel_rfl) rfl rfl ?_ ?_; rotate_left; (next => (intro _ hw; obtain ⟨_, rfl⟩ := hw; go_simp; try rfl)); clear hK; intro _ hK) | (refine q_field (v := ?_) hK (by kernel_rfl) rfl (by kernel_rfl) rfl rfl ?_ ?_; rotate_left; (next => (intro _ hw; obtain ⟨_, rfl⟩ := hw; go_simp; try rfl)); clear hK; intro _ hK) | (refine q_index (v := ?_) hK (by kernel_rfl) rfl (by kernel_rfl) rfl rfl rfl ?_ ?_; rotate_left; (next => (intro _ hw; obtain ⟨_, rfl⟩ := hw; go_simp; try rfl)); clear hK; intro _ hK) | (refine q_bin (v := ?_) hK (by kernel_rfl) rfl (by kernel_rfl) rfl rfl rfl ?_ ?_; rotate_left; (next => (intro _ hw; obtain ⟨_, rfl⟩ := hw; go_simp; try rfl)); clear hK; intro _ hK))
                  refine q_call (f := 15) (args := #[.pointer (some ⟨(ps i).r, 0, none⟩), .pointer none]) hK (by kernel_rfl) rfl (by kernel_rfl) (fun _ => by have e := hK.k.ev (s := 251) rfl; simp only [Act.eval, Array.getD_eq_getD_getElem?] at e; go_simp) (fun w' hw => by obtain ⟨n, rfl⟩ := hw; exact Calls.quiet_of_same (HD2.out _)) ?_
                  clear hK; intro _ hK
                  repeat (first | (refine q_move hK (by kernel_rfl) rfl (by kernel_rfl) rfl rfl ?_; clear hK; intro _ hK) | (refine q_nil hK (by kernel_rfl) rfl (by kernel_rfl) rfl rfl ?_; clear hK; intro _ hK) | (refine q_pick_f hK (by kernel_rfl) rfl (by kernel_rfl) rfl rfl rfl ?_; clear hK; intro _ hK) | (refine q_load (v := ?_) hK (by kernel_rfl) rfl (by kernel_rfl) rfl rfl ?_ ?_; rotate_left; (next => (intro _ hw; obtain ⟨_, rfl⟩ := hw; go_simp; try rfl)); clear hK; intro _ hK) | (refine q_field (v := ?_) hK (by kernel_rfl) rfl (by kernel_rfl) rfl rfl ?_ ?_; rotate_left; (next => (intro _ hw; obtain ⟨_, rfl⟩ := hw; go_simp; try rfl)); clear hK; intro _ hK) | (refine q_index (v := ?_) hK (by kernel_rfl) rfl (by kernel_rfl) rfl rfl rfl ?_ ?_; rotate_left; (next => (intro _ hw; obtain ⟨_, rfl⟩ := hw; go_simp; try rfl)); clear hK; intro _ hK) | (refine q_bin (v := ?_) hK (by kernel_rfl) rfl (by kernel_rfl) rfl rfl rfl ?_ ?_; rotate_left; (next => (intro _ hw; obtain ⟨_, rfl⟩ := hw; go_simp; try rfl)); clear hK; intro _ hK))
                  refine wpQuiet_nil ?_
                  intro w' hw'
                  obtain ⟨nq, rfl⟩ := hw'
                  refine hMet _ _ (Met.intro (hJ _ _ ?_))
                  (repeat apply Exists.intro)
                  refine ⟨?rel, hK.k.eq⟩
                  case rel => exact ⟨holds_look hK.k.facts rfl, _, rfl⟩
              case rest =>
                obtain ⟨rfl, nq, hwd⟩ := hcut
                subst hwd
                go_wp2_with fail
                go_roundg (gk - 1)
                case measure => have := HJ.out; omega
                case rel => exact ⟨j + 1, ow3, ss3, by have := HJ.out; omega, by go_num, HM3.out.junk (Only.drewN [] _ _), HE3.out.1, HE3.out.2⟩
        · as_aux_lemma =>
          have hj' : j = q := by omega
          subst hj'
          clear hj
          go_wp2_with fail
          refine (m_table_bad HMA.out (k := (k : Int)) (Or.inr ⟨by omega, by omega⟩)).mono ?_
          rintro e w' ⟨rfl, rfl⟩
          go_wp2_with fail
          refine (m_table_bad HMA.out (k := -1) (Or.inl (by omega))).mono ?_
          rintro e w' ⟨rfl, rfl⟩
          go_wp2_with fail
          refine (m_made HMA.out (by omega)).mono ?_
          rintro e w2 ⟨v, ow3, rfl, hM, hR⟩
          obtain ⟨ad, c20, rfl⟩ := hR.slice' (m := (mades ps ss k).length) (by simp)
          have HM2 := Lib.hid hM
          have HR2 := Lib.hid hR
          have HLK := Lib.hid (mades_length ps ss k)
          clear hM hR HMA
          generalize hlen : (mades ps ss k).length = len
          have HLEN := Lib.hid hlen
          clear hlen
          have hlb : len ≤ 30 := by have h1 := HLEN.out; have h2 := HLK.out; omega
          go_wp2_with fail
          go_loopg [30, 31] k (fun g' s30 s31 wr => wr = w2 ∧ ∃ i : Nat, i + g' = k ∧ s31 = .int .i64 i ∧ s30 = .int .i64 (mades ps ss i).length)
          case atStart => exact ⟨rfl, 0, by omega, rfl, rfl⟩
          case round =>
            obtain ⟨rfl, i, hi, rfl, rfl⟩ := hrel
            have HI := Lib.hid hi
            by_cases hik : i < k
            · have hii : (i : Int) < k := by omega
              clear hi
              have r17 : wr.cell? ⟨g 17, i, none⟩ = some (.pointer (some ⟨(ps i).c, 0, none⟩)) := HM2.out.cell hik 17 (by decide) (by decide)
              have c5 := HM2.out.cdone hik (HSY.out i hik)
              cases hm : madeAt ps ss i with
              | false =>
                rw [hm] at c5
                have HMN := Lib.hid (mades_no hm)
                clear hm
                go_wp2_with fail
                go_roundg (gk - 1)
                case measure => have := HI.out; omega
                case rel => exact ⟨rfl, i + 1, by have := HI.out; omega, by go_num, by rw [HMN.out]⟩
              | true =>
                rw [hm] at c5
                have HMY := Lib.hid (mades_yes hm)
                have HG := Lib.hid (mades_get hik hm)
                clear hm
                have hl2 : (mades ps ss i).length < len := by have h1 := HG.out.1; have h2 := HLEN.out; omega
                have hr := HR2.out
                obtain ⟨g20, rfl, hjunk⟩ := hr.at (by have h1 := HLEN.out; simp; omega)
                have c20' : wr.cell? ⟨g20, (mades ps ss i).length, none⟩ = some (.int .i64 i) := hjunk.2.2.2 _ _ HG.out.2
                clear hr hjunk
                have hl3 : ((mades ps ss i).length : Int) < len := by omega
                have hd : decide ((len : Int) ≤ ((mades ps ss i).length : Int)) = false := by simp; omega
                generalize hlo : (mades ps ss i).length = lo at *
                have HLO := Lib.hid hlo
                clear hlo
                go_wp2_with fail
                go_roundg (gk - 1)
                case measure => have := HI.out; omega
                case rel => exact ⟨rfl, i + 1, by have := HI.out; omega, by go_num, by rw [HMY.out, List.length_append, HLO.out]; rfl⟩
            · have hik' : i = k := by omega
              subst hik'
              clear hi
              rw [HLEN.out]
              go_wp2_with fail
              refine (sizes_true wr).mono ?_
              rintro e w3 ⟨rfl, hO3⟩
              have HO3 := Lib.hid hO3
              clear hO3
              go_wp2_with fail
              go_ret
              exact ⟨rfl, HM2.out.old.trans HO3.out⟩

end Go.Proofs.Ytbcdkcepgbegjaa
