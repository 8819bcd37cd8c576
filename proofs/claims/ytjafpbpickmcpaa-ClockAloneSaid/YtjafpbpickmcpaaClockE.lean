/- ClockAlone as a call: for every number of leases and every script it returns true and writes nothing that was there. -/
import Derived.Test.YtjafpbpickmcpaaClockD
import Derived.Deep.CutBlock
namespace Go.Proofs.Ytjafpbpickmcpaa
open Go.RowKit

set_option maxRecDepth 100000 in
set_option maxHeartbeats 2000000 in
theorem alone_core (n : Nat) (h1 : 1 ≤ n) (h2 : n ≤ 64) (a : Option Addr) (len cap : Nat) (zs : List Int) (hlen : len ≤ 400) (w : World) (hs0 : Script w a len zs) :
    Calls Try.prog 3 #[.int .i64 n, .slice a len cap] w fun e w' => e = .returned (.bool true) ∧ Only [] w w' := by
  have hmk : ∀ w : World, (Instr.makeSlice 22 (.int .i64 n) (.int .i64 n)).run Try.prog w = .ok (.slice (some ⟨w.heap.size, 0, none⟩) n n) (w.alloc (.cells (madeCells #[.int .i64 0] n) 3)) := fun w =>
    run_make_row' 22 3 (.int .i64 0) 8 Try.underlying22 info_int rfl .i64 .i64 n (by omega) (by omega) w
  go_enter Try.func3, Try.ntmps3
  go_wp2_with fail
  refine (clock_known w).mono ?_
  rintro e w0 ⟨rfl, hO0⟩
  go_wp2_with fail
  refine (clock_new n h1 h2 w0).mono ?_
  rintro e w1 ⟨rfl, hC1, hO1⟩
  obtain ⟨b, hb⟩ : ∃ b, w0.heap.size + 1 = b := ⟨_, rfl⟩
  obtain ⟨q, hq⟩ : ∃ q, w0.heap.size = q := ⟨_, rfl⟩
  rw [hb, hq] at hC1
  rw [hb]
  have Hb := Lib.hid hb
  have Hq := Lib.hid hq
  clear hb hq
  have z0 := hO0.size
  have z1 := hO1.size
  have zb := hC1.head.lt
  have zq := hC1.row.lt
  go_wp2_with fail
  refine (clock_new n h1 h2 w1).mono ?_
  rintro e w2 ⟨rfl, hC2, hO2⟩
  obtain ⟨b2, hb2⟩ : ∃ b, w1.heap.size + 1 = b := ⟨_, rfl⟩
  obtain ⟨q2, hq2⟩ : ∃ q, w1.heap.size = q := ⟨_, rfl⟩
  rw [hb2, hq2] at hC2
  rw [hb2]
  have hb := Hb.out
  have hq := Hq.out
  have z2 := hO2.size
  have zb2 := hC2.head.lt
  have zq2 := hC2.row.lt
  have hC3 := hC1.only hO2 (by simp) (by simp)
  have hO3 := (hO0.trans hO1).trans hO2
  have hnb : w.heap.size ≤ b ∧ w.heap.size ≤ q ∧ w.heap.size ≤ w2.heap.size := by omega
  have hap : b ≠ b2 ∧ b ≠ q2 ∧ q ≠ b2 ∧ q ≠ q2 ∧ w2.heap.size ≠ b ∧ w2.heap.size ≠ q ∧ w2.heap.size ≠ b2 ∧ w2.heap.size ≠ q2 := by omega
  have HR : Round w (w2.alloc (.cells (madeCells #[.int .i64 0] n) 3)) n b q b2 q2 w2.heap.size 1 (List.replicate n 0) := by
    refine ⟨?_, ?_, ?_, by simp, by intro h hh; simp at hh; omega, hO3.trans (Only.alloc _ _ _), hnb, hap⟩
    · rw [wordsOf_replicate]; exact hC3.only (Only.alloc [] _ _) (by simp) (by simp)
    · exact hC2.only (Only.alloc [] _ _) (by simp) (by simp)
    · rw [made_ints]; exact Blk.new _ _ _
  clear hb hq Hb Hq hb2 hq2 hC1 hC2 hC3 hO0 hO1 hO2 z0 z1 zb zq z2 zb2 zq2 hnb hap hO3
  go_wp2_with fail
  generalize w2.heap.size = g at HR ⊢
  go_loopw [9, 11] (fun s9 s11 wr => ∃ (i : Nat) (now : Int) (hs : List Int), i ≤ len ∧ s11 = .int .i64 i ∧ s9 = .int .i64 now ∧ 1 ≤ now ∧ now ≤ i + 1 ∧ Round w wr n b q b2 q2 g now hs) (fun _ s11 _ => len - (intOf s11).toNat)
  case atStart => exact ⟨0, 1, _, Nat.zero_le _, rfl, rfl, by omega, by omega, HR⟩
  case round =>
    obtain ⟨i, now, hs, hi, rfl, rfl, hn1, hn2, HR⟩ := hrel
    by_cases hlt : i < len
    · rcases hs0 with hs0 | ⟨bx, ox, rfl, hbx, hcell⟩
      · omega
      obtain ⟨z, _, hz, hz1, hz2⟩ := hcell i hlt
      have hzr := (HR.only.cell (p := ⟨bx, ox + i, none⟩) hbx (by simp)).trans hz
      clear hz hcell
      have hlen' := HR.len
      have hcl := HR.clk
      have hgb := HR.held
      have hsm := HR.small
      have hwl : (wordsOf hs).length = n := by rw [wordsOf_length]; exact hlen'
      have HW := Lib.hid hwl
      have HLEN := Lib.hid hlen'
      clear hwl hlen'
      have hap := HR.apart
      have hnew := HR.new
      obtain ⟨hap1, hap2, hap3, hap4, hap5, hap6, hap7, hap8⟩ := hap
      go_upto_block 2 with fail
      go_cut [9] (fun s9 wc => ∃ (now' : Int) (hs' : List Int), s9 = .int .i64 now' ∧ 1 ≤ now' ∧ now' ≤ i + 2 ∧ Round w wc n b q b2 q2 g now' hs')
      case first =>
        by_cases hz0 : z = 0
        · as_aux_lemma =>
            subst hz0
            go_wp2_with fail
            go_loopw [12] (fun s12 wr' => wr' = wr ∧ ∃ k : Nat, k ≤ n ∧ s12 = .int .i64 k ∧ ∀ j, j < k → ¬ hs.getD j 0 = 0) (fun s12 _ => n - (intOf s12).toNat)
            case atStart => exact ⟨rfl, 0, Nat.zero_le _, rfl, by omega⟩
            case round =>
              obtain ⟨rfl, k, hk, rfl, hfirst⟩ := hrel
              by_cases hkn : k < n
              · have hck := hgb.cell k (getD_cell (by rw [HLEN.out]; exact hkn))
                have hsk := hsm _ (mem_getD (hs := hs) (k := k) (by rw [HLEN.out]; exact hkn))
                by_cases hx : 0 < hs.getD k 0
                · have hf' : ∀ j, j < k + 1 → ¬ hs.getD j 0 = 0 := by
                    intro j hj
                    by_cases hjk : j = k
                    · subst hjk; omega
                    · exact hfirst j (by omega)
                  have HF := Lib.hid hf'
                  clear hf' hfirst
                  generalize hs.getD k 0 = x at hck hsk hx
                  go_wp2_with fail
                  go_roundw
                  case rel => exact ⟨trivial, k + 1, by omega, by go_num, HF.out⟩
                  case measure => simp [intOf]; omega
                · have hx0 : hs.getD k 0 = 0 := by omega
                  have hwp : ∀ j, j < k → ¬ (wordsOf hs).getD j 0 = 0 := by
                    intro j hj h0
                    have hjm := hsm _ (mem_getD (hs := hs) (k := j) (by rw [HLEN.out]; omega))
                    rw [wordsOf_getD, wordOf_zero hjm.1] at h0
                    exact hfirst j hj h0
                  have hwz : (wordsOf hs).getD k 0 = 0 := by rw [wordsOf_getD, hx0]; rfl
                  have HWP := Lib.hid hwp
                  have HWZ := Lib.hid hwz
                  have HF := Lib.hid hfirst
                  clear hwp hwz hfirst
                  rw [hx0] at hck
                  have HX0 := Lib.hid hx0
                  clear hx0 hx hsk
                  have hkd : ((k : Int) == n) = false := by simp; omega
                  go_wp2_with fail
                  refine (clock_take b q now _ k _ hcl (by omega) (by rw [HW.out]; exact h2) (by rw [HW.out]; exact hkn) HWZ.out HWP.out).mono ?_
                  rintro e w4 ⟨rfl, hC4, hX4⟩
                  have hg4 := hgb.only hX4 (by simp; omega)
                  have hcw : (wordsOf hs).set k (now + 1) = wordsOf (hs.set k now) := by
                    rw [wordsOf_set]
                    have : wordOf now = now + 1 := by unfold wordOf; rw [if_neg (by omega)]
                    rw [this]
                  rw [hcw] at hC4
                  clear hcw
                  have hO4 : Only [b, q] wr w4 := hX4
                  have hkb : ∀ y, y ∈ hs.set k now → 0 ≤ y ∧ y < now + 1 := small_set hsm (by omega)
                  have HKB := Lib.hid hkb
                  clear hkb hX4
                  go_wp2_with fail
                  refine calls_name (fun w5 => ClkAt w5 b q (now + 1) (wordsOf (hs.set k now)) ∧ Blk w5 g (hs.map (Value.int .i64)).toArray 3 ∧ Blk w5 w4.heap.size #[.int .i64 k, .int .i64 now] 29 ∧ Only [b, q] wr w5) ⟨?_, ?_, ?_, ?_⟩ ?_
                  · exact hC4.only (Only.alloc [] _ _) (by simp) (by simp)
                  · exact hg4.alloc _
                  · exact Blk.new _ _ _
                  · exact hO4.trans (Only.alloc _ _ _)
                  clear hC4 hg4 hO4
                  generalize w4.heap.size = S13
                  clear w4
                  rintro w5 ⟨hC5, hg5, hs5, hO5⟩
                  have hwk : (wordsOf (hs.set k now)).getD k 0 = now + 1 := by
                    rw [wordsOf_getD]
                    have : (hs.set k now).getD k 0 = now := by simp [List.getD, HLEN.out, hkn]
                    rw [this]; unfold wordOf; rw [if_neg (by omega)]
                  have HWK := Lib.hid hwk
                  have hwl : (wordsOf (hs.set k now)).length = n := by rw [wordsOf_length, List.length_set]; exact HLEN.out
                  have HWL := Lib.hid hwl
                  clear hwk hwl
                  refine (clock_holds_in b q (now + 1) _ k now (now + 1) _ hC5 (by rw [HWL.out]; exact hkn) HWK.out (by omega) (by omega)).mono ?_
                  rw [show (now + 1 - 1 == now) = true from by simp]
                  rintro e w6 ⟨rfl, hX6⟩
                  have hC6 := hC5.only hX6 (by simp) (by simp)
                  have hg6 := hg5.only hX6 (by simp)
                  have hO6 := hO5.trans (hX6.mono (by simp))
                  clear hC5 hg5 hO5 hX6 hs5
                  go_wp2_with fail
                  refine (clock_holds_in b q (now + 1) _ k (now + 1) (now + 1) _ hC6 (by rw [HWL.out]; exact hkn) HWK.out (by omega) (by omega)).mono ?_
                  rw [show (now + 1 - 1 == now + 1) = false from by simp; omega]
                  rintro e w7 ⟨rfl, hX7⟩
                  have hC7 := hC6.only hX7 (by simp) (by simp)
                  have hg7 := hg6.only hX7 (by simp)
                  have hO7 := hO6.trans (hX7.mono (by simp))
                  clear hC6 hg6 hO6 hX7
                  go_wp2_with fail
                  refine (clock_holds_out b q (now + 1) _ n now _ hC7 (by rw [HWL.out]; omega)).mono ?_
                  rintro e w8 ⟨rfl, hX8⟩
                  have hC8 := hC7.only hX8 (by simp) (by simp)
                  have hg8 := hg7.only hX8 (by simp)
                  have hO8 := hO7.trans (hX8.mono (by simp))
                  clear hC7 hg7 hO7 hX8
                  have hck8 := hg8.cell k (getD_cell (by rw [HLEN.out]; exact hkn))
                  have hfk8 := hg8.free k
                  go_wp2_with fail
                  go_meet
                  case rel =>
                    refine ⟨now + 1, hs.set k now, rfl, by omega, by omega, ?_⟩
                    refine HR.step (S := [b, q, g]) ((hO8.mono (by simp)).trans (Only.setCell _ (by simp) _)) (by intro i hi; simp at hi; omega) ?_ ?_ (by simp [HLEN.out]) HKB.out
                    · exact hC8.only (Only.setCell (S := [g]) w8 (a := ⟨g, k, none⟩) (by simp) _) (by simp; omega) (by simp; omega)
                    · have := hg8.set_same k (.int .i64 now)
                      simpa [List.map_set] using this
              · obtain rfl : k = n := by omega
                have hwp : ∀ j, j < (wordsOf hs).length → ¬ (wordsOf hs).getD j 0 = 0 := by
                  intro j hj h0
                  rw [HW.out] at hj
                  have hjm := hsm _ (mem_getD (hs := hs) (k := j) (by rw [HLEN.out]; omega))
                  rw [wordsOf_getD, wordOf_zero hjm.1] at h0
                  exact hfirst j hj h0
                have HWP := Lib.hid hwp
                clear hwp hfirst hkn
                go_wp2_with fail
                refine (clock_take_none b q now _ _ hcl (by rw [HW.out]; exact h2) HWP.out).mono ?_
                rintro e w4 ⟨rfl, hX4⟩
                have s0 := Blk.new w4 #[.int .i64 0, .int .i64 0] 29
                have s0' := s0.cell 0 rfl
                have s1' := s0.cell 1 rfl
                go_wp2_with fail
                go_meet
                case rel =>
                  refine ⟨now, hs, rfl, by omega, by omega, ?_⟩
                  have hX5 := hX4.trans (Only.alloc [] w4 (.cells #[.int .i64 0, .int .i64 0] 29))
                  exact HR.step hX5 (by simp) (hcl.only hX5 (by simp) (by simp)) (hgb.only hX5 (by simp)) HLEN.out hsm
        · have hz0' : (z == 0) = false := by simpa using hz0
          by_cases hzm : z = -1
          · as_aux_lemma =>
              subst hzm
              go_wp2_with fail
              refine (clock_now b q now _ _ hcl).mono ?_
              rintro e w' ⟨rfl, rfl⟩
              go_wp2_with fail
              go_meet
              case rel => exact ⟨now, hs, rfl, by omega, by omega, HR⟩
          · have hzm' : (z == -1) = false := by simpa using hzm
            by_cases hzt : z = -2
            · as_aux_lemma =>
                subst hzt
                go_wp2_with fail
                go_loopw [15, 16] (fun s15 s16 wr' => wr' = wr ∧ ∃ k : Nat, k ≤ n ∧ s16 = .int .i64 k ∧ s15 = .int .i64 (leastL now (wordsOf (hs.take k)))) (fun _ s16 _ => n - (intOf s16).toNat)
                case atStart => exact ⟨rfl, 0, Nat.zero_le _, rfl, rfl⟩
                case round =>
                  obtain ⟨rfl, k, hk, rfl, rfl⟩ := hrel
                  by_cases hkn : k < n
                  · have hck := hgb.cell k (getD_cell (by rw [HLEN.out]; exact hkn))
                    have hsk := hsm _ (mem_getD (hs := hs) (k := k) (by rw [HLEN.out]; exact hkn))
                    have HST := Lib.hid (least_step now hs k (by rw [HLEN.out]; exact hkn) hsk.1)
                    generalize leastL now (wordsOf (hs.take k)) = m at HST ⊢
                    generalize hs.getD k 0 = x at hck hsk HST
                    by_cases hx : 0 < x
                    · by_cases hxm : x < m
                      · go_wp2_with fail
                        go_roundw
                        case rel => exact ⟨trivial, k + 1, by omega, by go_num, by rw [HST.out, if_pos ⟨hx, hxm⟩]⟩
                        case measure => simp [intOf]; omega
                      · go_wp2_with fail
                        go_roundw
                        case rel => exact ⟨trivial, k + 1, by omega, by go_num, by rw [HST.out, if_neg (fun h => hxm h.2)]⟩
                        case measure => simp [intOf]; omega
                    · go_wp2_with fail
                      go_roundw
                      case rel => exact ⟨trivial, k + 1, by omega, by go_num, by rw [HST.out, if_neg (fun h => hx h.1)]⟩
                      case measure => simp [intOf]; omega
                  · obtain rfl : k = n := by omega
                    have hall : leastL now (wordsOf (hs.take k)) = leastL now (wordsOf hs) := by rw [List.take_of_length_le (by rw [HLEN.out]; omega)]
                    rw [hall]
                    clear hall
                    have hlo := wordsOf_mem hsm (by omega)
                    have HLO := Lib.hid hlo
                    clear hlo
                    go_wp2_with fail
                    refine (clock_least b q now _ _ hcl (by rw [HW.out]; exact h2) HLO.out).mono ?_
                    rintro e w' ⟨rfl, rfl⟩
                    generalize leastL now (wordsOf hs) = m
                    go_wp2_with fail
                    go_meet
                    case rel => exact ⟨now, hs, rfl, by omega, by omega, HR⟩
            · have hzt' : (z == -2) = false := by simpa using hzt
              by_cases hin : 1 ≤ z ∧ z - 1 < n
              · obtain ⟨k, rfl⟩ : ∃ k : Nat, z = (k : Int) + 1 := ⟨(z - 1).toNat, by omega⟩
                have hkn : k < n := by omega
                clear hin hz1 hz2 hz0 hzm hzt
                have hkd0 : 0 ≤ (k : Int) := by omega
                have hkd1 : (k : Int) < n := by omega
                have hck := hgb.cell k (getD_cell (by rw [HLEN.out]; exact hkn))
                have hfk := hgb.free k
                have hsk := hsm _ (mem_getD (hs := hs) (k := k) (by rw [HLEN.out]; exact hkn))
                by_cases hx : hs.getD k 0 = 0
                · as_aux_lemma =>
                    have hwz : (wordsOf hs).getD k 0 = 0 := by rw [wordsOf_getD, hx]; rfl
                    have HWZ := Lib.hid hwz
                    rw [hx] at hck
                    clear hwz hx hsk
                    go_wp2_with fail
                    refine (clock_release_free b q now _ k _ hcl (by rw [HW.out]; exact hkn) HWZ.out).mono ?_
                    rintro e w4 ⟨rfl, hC4, hX4⟩
                    have hg4 := hgb.only hX4 (by simp; omega)
                    have hck4 := hg4.cell k (getD_cell (by rw [HLEN.out]; exact hkn))
                    rw [(World.cell?_of_block (w := wr) (w' := w4) (a := ⟨g, k, none⟩) (hX4.block g hgb.lt (by simp; omega))).trans hck] at hck4
                    have hck5 := (World.cell?_of_block (w := wr) (w' := w4) (a := ⟨g, k, none⟩) (hX4.block g hgb.lt (by simp; omega))).trans hck
                    clear hck4
                    go_wp2_with fail
                    go_meet
                    case rel => exact ⟨now, hs, rfl, by omega, by omega, HR.step hX4 (by intro i hi; simp at hi; omega) hC4 hg4 HLEN.out hsm⟩
                · as_aux_lemma =>
                    have hwz : ¬ (wordsOf hs).getD k 0 = 0 := by rw [wordsOf_getD, wordOf_zero hsk.1]; exact hx
                    have HWZ := Lib.hid hwz
                    have hxb : (hs.getD k 0 == 0) = false := by simpa using hx
                    clear hwz hx
                    generalize hs.getD k 0 = x at hck hsk hxb
                    go_wp2_with fail
                    refine (clock_release b q now _ k _ hcl (by rw [HW.out]; exact hkn) HWZ.out).mono ?_
                    rintro e w4 ⟨rfl, hC4, hX4⟩
                    have hg4 := hgb.only hX4 (by simp; omega)
                    have hck5 := (World.cell?_of_block (w := wr) (w' := w4) (a := ⟨g, k, none⟩) (hX4.block g hgb.lt (by simp; omega))).trans hck
                    have hfk5 := hg4.free k
                    have hcw : (wordsOf hs).set k 0 = wordsOf (hs.set k 0) := by rw [wordsOf_set]; rfl
                    rw [hcw] at hC4
                    clear hcw
                    go_wp2_with fail
                    go_meet
                    case rel =>
                      refine ⟨now, hs.set k 0, rfl, by omega, by omega, ?_⟩
                      refine HR.step (S := [b, q, g]) ((hX4.mono (by simp)).trans (Only.setCell _ (by simp) _)) (by intro i hi; simp at hi; omega) ?_ ?_ (by simp [HLEN.out]) (small_set' hsm (by omega))
                      · exact hC4.only (Only.setCell (S := [g]) w4 (a := ⟨g, k, none⟩) (by simp) _) (by simp; omega) (by simp; omega)
                      · have := hg4.set_same k (.int .i64 0)
                        simpa [List.map_set] using this
              · as_aux_lemma =>
                  have hout : wrap64 (z - 1) < 0 ∨ (n : Int) ≤ wrap64 (z - 1) := by
                    unfold wrap64
                    omega
                  have HOUT := Lib.hid hout
                  have HZ0 := Lib.hid hz0
                  clear hout hin hz1 hz2 hz0 hzm hzt
                  go_wp2_with fail
                  revert HOUT
                  generalize wrap64 (z - 1) = kk
                  intro HOUT
                  refine (clock_release_bad b q now _ kk _ hcl (by rw [HW.out]; have := HOUT.out; omega)).mono ?_
                  rintro e w' ⟨rfl, rfl⟩
                  by_cases hk0 : kk < 0
                  · go_wp2_with fail
                    go_meet
                    case rel => exact ⟨now, hs, rfl, by omega, by omega, HR⟩
                  · have hkn : (n : Int) ≤ kk := by have := HOUT.out; omega
                    go_wp2_with fail
                    go_meet
                    case rel => exact ⟨now, hs, rfl, by omega, by omega, HR⟩
      case rest =>
        as_aux_lemma =>
          obtain ⟨now', hs', rfl, hn1', hn2', HR'⟩ := hcut
          clear hcl hgb hsm HW HLEN hzr HR
          have HLEN := Lib.hid HR'.len
          have hcl := HR'.clk
          go_wp2_with fail
          refine (clock_leases b q now' _ _ hcl (by rw [wordsOf_length, HLEN.out]; exact h2)).mono ?_
          rintro e w4 ⟨v, rfl, hown, hX4⟩
          rw [wordsOf_length, HLEN.out] at hown
          obtain ⟨gl, cp, rest, rfl, hgl, hcp, hcm, hbl⟩ := own_open hown (by omega)
          clear hown
          have hR4 := HR'.step hX4 (by simp) (hcl.only hX4 (by simp) (by simp)) (HR'.held.only hX4 (by simp)) HLEN.out HR'.small
          have hgn : gl ≠ b ∧ gl ≠ q ∧ gl ≠ b2 ∧ gl ≠ q2 ∧ gl ≠ g := by
            have := hcl.head.lt; have := hcl.row.lt; have := HR'.other.head.lt; have := HR'.other.row.lt; have := HR'.held.lt
            omega
          have hgw : w.heap.size ≤ gl := by have := HR'.only.size; omega
          clear hX4 hcl HR' hgl
          go_wp2_with fail
          have hst : ∀ j, 0 ≤ j → j < n → ((wordsOf hs').map (Value.int .i64) ++ rest)[j]? = some (.int .i64 (wordOf (hs'.getD j 0))) := by
            intro j _ hj
            rw [List.getElem?_append_left (by rw [List.length_map, wordsOf_length, HLEN.out]; exact hj), ← wordsOf_getD]
            simp [List.getD, show j < (wordsOf hs').length by rw [wordsOf_length, HLEN.out]; exact hj]
          generalize ((wordsOf hs').map (Value.int .i64) ++ rest) = ys0 at hbl hst
          have HST := Lib.hid hst
          clear hst
          go_loopw [20] (fun s20 wr' => ∃ k : Nat, k ≤ n ∧ s20 = .int .i64 k ∧ ∃ ys : List Value, Hid (∀ j, k ≤ j → j < n → ys[j]? = some (.int .i64 (wordOf (hs'.getD j 0)))) ∧ Blk wr' gl ys.toArray 3 ∧ Round w wr' n b q b2 q2 g now' hs') (fun s20 _ => n - (intOf s20).toNat)
          case atStart => exact ⟨0, Nat.zero_le _, rfl, ys0, HST, hbl, hR4⟩
          case round =>
            obtain ⟨k, hk, rfl, ys, HY, hbk, hRk⟩ := hrel
            clear HST hbl hR4
            by_cases hkn : k < n
            · have hcg := hRk.held.cell k (getD_cell (by rw [HLEN.out]; exact hkn))
              have hyk := HY.out k (Nat.le_refl _) hkn
              have hcy : wr.cell? ⟨gl, k, none⟩ = some (.int .i64 (wordOf (hs'.getD k 0))) := hbk.cell k (by rw [List.getElem?_toArray]; exact hyk)
              have hfy := hbk.free k
              have hsk := hRk.small _ (mem_getD (hs := hs') (k := k) (by rw [HLEN.out]; exact hkn))
              have hkz : (k : Int) < n := by omega
              clear hyk
              have HY' := Lib.hid (show ∀ j, k + 1 ≤ j → j < n → (ys.set k (.int .i64 (-9)))[j]? = some (.int .i64 (wordOf (hs'.getD j 0))) from by
                intro j hj hjn
                rw [List.getElem?_set_ne (by omega)]
                exact HY.out j (by omega) hjn)
              clear HY
              have hfin := Lib.hid (show ∀ nq, Blk ((wr.drewN nq).setCell ⟨gl, k, none⟩ (.int .i64 (-9))) gl (ys.set k (.int .i64 (-9))).toArray 3 ∧ Round w ((wr.drewN nq).setCell ⟨gl, k, none⟩ (.int .i64 (-9))) n b q b2 q2 g now' hs' from by
                intro nq
                have hoD : Only [gl] wr ((wr.drewN nq).setCell ⟨gl, k, none⟩ (.int .i64 (-9))) := (Only.drewN _ wr nq).trans (Only.setCell _ (by simp) _)
                refine ⟨?_, ?_⟩
                · have := Blk.set_same (w := wr.drewN nq) hbk k (.int .i64 (-9))
                  simpa using this
                · refine ⟨hRk.clk.only hoD (by simp; omega) (by simp; omega), hRk.other.only hoD (by simp; omega) (by simp; omega), hRk.held.only hoD (by simp; omega), hRk.len, hRk.small, hRk.only.past hoD (by intro i hi; right; simp at hi; omega), hRk.new, hRk.apart⟩)
              generalize hs'.getD k 0 = x at hcg hcy hsk
              by_cases hx : 0 < x
              · have hwx : wordOf x = x + 1 := by unfold wordOf; rw [if_neg (by omega)]
                rw [hwx] at hcy
                clear hwx
                have hwr : IntKind.i64.wrap (x + 1) = x + 1 := IntWalk.i64_in _ ⟨by omega, by omega⟩
                have hx0 : (x == 0) = false := by simp; omega
                go_wp2_with fail
                go_quiet (fail)
                clear hwr
                go_wp2_with fail
                go_roundw
                case rel => exact ⟨k + 1, by omega, by go_num, _, HY', hfin.out nq⟩
                case measure => simp [intOf]; omega
              · obtain rfl : x = 0 := by omega
                rw [show wordOf 0 = 0 from rfl] at hcy
                go_wp2_with fail
                go_quiet (fail)
                go_wp2_with fail
                go_roundw
                case rel => exact ⟨k + 1, by omega, by go_num, _, HY', hfin.out nq⟩
                case measure => simp [intOf]; omega
            · obtain rfl : k = n := by omega
              go_wp2_with fail
              go_roundw
              case rel => exact ⟨i + 1, now', hs', by omega, by go_num, rfl, by omega, by omega, hRk⟩
              case measure => simp [intOf]; omega
    · obtain rfl : i = len := by omega
      have hl1 := least_replicate 1 n
      have hoC := HR.other
      go_wp2_with fail
      refine (clock_now b2 q2 1 _ _ hoC).mono ?_
      rintro e w' ⟨rfl, rfl⟩
      go_wp2_with fail
      refine (clock_least b2 q2 1 _ _ hoC (by simp; omega) (by simp)).mono ?_
      rintro e w' ⟨rfl, rfl⟩
      rw [hl1]
      go_wp2_with fail
      go_ret
      exact ⟨rfl, HR.only⟩
end Go.Proofs.Ytjafpbpickmcpaa
