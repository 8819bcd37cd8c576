/- The statement's begun: two pools of one size, or none. No condition beside the size's. -/
import Derived.Test.YtpknnamficegbaaGreatDoorCRefV
import Derived.Test.YtpknnamficegbaaGreatDoorCLookX
set_option linter.unusedVariables false
set_option linter.unusedSimpArgs false
set_option linter.unusedSectionVars false
set_option linter.unnecessarySimpa false
namespace Go.Proofs.YtpknnamficegbaaGreatDoor
open Go.RowKit

def ps0 (n : Nat) : Ps := ⟨fun _ => slot0, 1, 0, nxInit n n, 0⟩

theorem ps0_inv {n : Nat} (h1 : 1 ≤ n) : (ps0 n).Inv n 0 := ⟨by simp [ps0], by simp [ps0], fun j => by simp [ps0, slot0], h1, nxInit_length n n, fun j hj => by
  show 0 ≤ (nxInit n n).getD j 0 ∧ (nxInit n n).getD j 0 ≤ n
  rw [nxInit_getD hj]
  split <;> omega, by omega⟩

set_option maxHeartbeats 1000000 in
theorem begun_ok {n : Nat} (h1 : 1 ≤ n) (h2 : n ≤ 4096) (w : World) :
    Calls Tryz.prog 5 #[.int .i64 n] w fun e w' => ∃ B : PB, e = .returned (.tuple #[.pointer (some ⟨B.x, 0, none⟩), .bool true]) ∧ PairAt w' B n (ps0 n) [] ∧ Only [] w w' ∧ ∀ b, b ∈ B.bl → w.heap.size ≤ b := by
  go_enter Tryz.func5, Tryz.ntmps5
  go_wp2_with fail
  refine (rpool_new n h1 h2 w).mono ?_
  rintro e w1 ⟨A, rfl, hA, o1, hAl⟩
  have H1 := Lib.hid (And.intro hA (And.intro o1 hAl))
  clear hA o1 hAl
  go_wp2_with fail
  refine (mem_new w1).mono ?_
  rintro e w2 ⟨rfl, hM, o2⟩
  have HN := Lib.hid (ref_new h1 h2 hM)
  obtain ⟨mb, hmb⟩ : ∃ q, w1.heap.size = q := ⟨_, rfl⟩
  rw [hmb] at HN hM ⊢
  have H2 := Lib.hid (And.intro o2 (And.intro hmb hM.head.lt))
  clear o2 hM hmb
  go_wp2_with fail
  refine HN.out.mono ?_
  rintro e w3 ⟨R, rfl, hQ, hm, hRl, o3⟩
  have HF : Hid (PairAt (w3.alloc (.cells #[.pointer (some ⟨A.p, 0, none⟩), .pointer (some ⟨R.r, 0, none⟩), .pointer (some ⟨mb, 0, none⟩), .slice none 0 0] 70)) ⟨w3.heap.size, A, R, .slice none 0 0⟩ n (ps0 n) [] ∧ Only [] w (w3.alloc (.cells #[.pointer (some ⟨A.p, 0, none⟩), .pointer (some ⟨R.r, 0, none⟩), .pointer (some ⟨mb, 0, none⟩), .slice none 0 0] 70)) ∧ ∀ b, b ∈ (PB.mk w3.heap.size A R (.slice none 0 0)).bl → w.heap.size ≤ b) := by
    obtain ⟨hA, o1, hAl⟩ := H1.out
    obtain ⟨o2, hmb, hml⟩ := H2.out
    have hAlt := PoolR.lt hA
    have s1 := o1.size
    have s2 := o2.size
    have s3 := o3.size
    have hRl2 : ∀ b, b ∈ R.all → w1.heap.size ≤ b := fun b hb => by
      rcases hRl b hb with h | h
      · omega
      · omega
    have o13 : Only [mb] w1 w3 := (o2.mono (by simp)).trans o3
    have oal : Only [] w3 (w3.alloc (.cells #[.pointer (some ⟨A.p, 0, none⟩), .pointer (some ⟨R.r, 0, none⟩), .pointer (some ⟨mb, 0, none⟩), .slice none 0 0] 70)) := Only.alloc _ _ _
    have hRlt := RefQ.lt hQ
    have hmbR : mb = R.m := hm.symm
    refine Lib.hid ⟨⟨?_, PoolR.only (PoolR.only hA o13 (fun b hb hm' => ?_)) oal (by simp), RefQ.only hQ oal (by simp), World.ownsRow_nil _ _ _ _, ⟨fun hm' => ?_, fun hm' => ?_, by simp [Value.ownBlock]⟩, fun b hb hbr => ?_, fun b hb => by simp [Value.ownBlock] at hb⟩, ?_, fun b hb => ?_⟩
    · have := Blk.new w3 #[.pointer (some ⟨A.p, 0, none⟩), .pointer (some ⟨R.r, 0, none⟩), .pointer (some ⟨mb, 0, none⟩), .slice none 0 0] 70
      rw [hmbR] at this ⊢
      exact this
    · have := hAlt b hb
      simp at hm'
      omega
    · have : w3.heap.size < w1.heap.size := hAlt _ hm'
      omega
    · have : w3.heap.size < w3.heap.size := hRlt _ hm'
      omega
    · have := hAlt b hb
      have := hRl2 b hbr
      omega
    · refine (Only.past (T := [mb]) (o1.trans o2) o3 (by simp; omega)).trans oal
    · simp only [PB.bl, List.mem_cons, List.mem_append, Value.ownBlock, Option.toList, List.not_mem_nil, or_false] at hb
      rcases hb with rfl | hb | hb
      · omega
      · exact hAl b hb
      · have := hRl2 b hb
        omega
  clear hQ hm hRl o3 HN H1 H2
  go_wp2_with (go_at_call 10; refine (num_any _ _).mono ?_; rintro e w' ⟨rfl, rfl⟩)
  go_ret2
  exact ⟨⟨w3.heap.size, A, R, .slice none 0 0⟩, rfl, HF.out⟩

set_option maxHeartbeats 1000000 in
theorem begun_bad {n : Int} (hn : n < 1 ∨ 4096 < n) (w : World) :
    Calls Tryz.prog 5 #[.int .i64 n] w fun e w' => e = .returned (.tuple #[.pointer none, .bool true]) ∧ Only [] w w' := by
  have HP := Lib.hid (fun w => rpool_new_bad hn w)
  have HR := Lib.hid (fun w mb => ref_new_bad hn w mb)
  clear hn
  go_enter Tryz.func5, Tryz.ntmps5
  go_wp2_with fail
  refine (HP.out w).mono ?_
  rintro e w' ⟨rfl, rfl⟩
  go_wp2_with fail
  refine (mem_new w).mono ?_
  rintro e w2 ⟨rfl, hM, o2⟩
  have HO := Lib.hid o2
  clear hM o2
  go_wp2_with fail
  refine (HR.out _ _).mono ?_
  rintro e w' ⟨rfl, rfl⟩
  go_wp2_with (go_at_call 10; refine (num_any _ _).mono ?_; rintro e w' ⟨rfl, rfl⟩)
  go_ret2
  exact ⟨rfl, HO.out⟩

end Go.Proofs.YtpknnamficegbaaGreatDoor

