/- A pool, alone: slots laid down and read. Condition: the slots stand in memory as RowI says. -/
import Derived.Test.YteeibhjmjejplaaRow
import Derived.Test.YteeibhjmjejplaaPile
namespace Go.Proofs.Yteeibhjmjejplaa
open Go.RowKit

set_option maxHeartbeats 1000000 in
theorem slot_lays (sb N i : Nat) (S : Nat → Sl) (a b c d m l : Int) (w : World) (h : RowI w sb N (flat S) 114) (hN : i * 7 + 7 ≤ N) :
    Calls Try.prog 51 #[.pointer (some ⟨sb, i * 7, none⟩), .agg #[.int .i64 a, .int .i64 b, .int .i64 c, .int .i64 d], .int .i64 m, .int .i64 l] w fun e w' => e = .returned (.tuple #[]) ∧ RowI w' sb N (flat (upS S i ⟨(S i).gen, m, l, a, b, c, d⟩)) 114 ∧ Only [sb] w w' := by
  have i0 : ∀ w, (Instr.index 135 (.agg #[.int .i64 a, .int .i64 b, .int .i64 c, .int .i64 d]) (.int .i64 0)).run Try.prog w = .ok (.int .i64 a) w := fun _ => by kernel_rfl
  have i1 : ∀ w, (Instr.index 135 (.agg #[.int .i64 a, .int .i64 b, .int .i64 c, .int .i64 d]) (.int .i64 1)).run Try.prog w = .ok (.int .i64 b) w := fun _ => by kernel_rfl
  have i2 : ∀ w, (Instr.index 135 (.agg #[.int .i64 a, .int .i64 b, .int .i64 c, .int .i64 d]) (.int .i64 2)).run Try.prog w = .ok (.int .i64 c) w := fun _ => by kernel_rfl
  have i3 : ∀ w, (Instr.index 135 (.agg #[.int .i64 a, .int .i64 b, .int .i64 c, .int .i64 d]) (.int .i64 3)).run Try.prog w = .ok (.int .i64 d) w := fun _ => by kernel_rfl
  go_enter Try.func51, Try.ntmps51
  go_wp2_with fail
  refine wp_loop_rounds 5 ?_
  rw [rounds_succ]
  go_wp2_with fail
  refine calls_name (fun w1 => RowI w1 sb N (flat S) 114 ∧ Only [sb] w w1) ⟨h.only (Only.alloc [] _ _) (by simp), Only.alloc _ _ _⟩ ?_
  rintro w0 ⟨h0, o0⟩
  refine (store_any _ _ a _ (h0.slot i 3 (by omega) hN) (h0.free _)).mono ?_
  rintro e w1 ⟨rfl, hw⟩
  have h1 := h0.put i 3 a { S i with a := a } (by omega) rfl (by intro k hk hn; match k, hk, hn with | 0, _, _ => rfl | 1, _, _ => rfl | 2, _, _ => rfl | 4, _, _ => rfl | 5, _, _ => rfl | 6, _, _ => rfl) hw
  have o1 : Only [sb] w w1 := o0.trans (hw ▸ Only.setCell _ (by simp) _)
  clear h0 o0 hw
  go_wp2_with fail
  rw [rounds_succ]
  go_wp2_with fail
  refine (store_any _ _ b _ (h1.slot i 4 (by omega) hN) (h1.free _)).mono ?_
  rintro e w2 ⟨rfl, hw⟩
  have h2 := h1.put i 4 b { S i with a := a, b := b } (by omega) rfl (by intro k hk hn; rw [upS_same]; match k, hk, hn with | 0, _, _ => rfl | 1, _, _ => rfl | 2, _, _ => rfl | 3, _, _ => rfl | 5, _, _ => rfl | 6, _, _ => rfl) hw
  rw [upS_upS] at h2
  have o2 : Only [sb] w w2 := o1.trans (hw ▸ Only.setCell _ (by simp) _)
  clear h1 o1 hw
  go_wp2_with fail
  rw [rounds_succ]
  go_wp2_with fail
  refine (store_any _ _ c _ (h2.slot i 5 (by omega) hN) (h2.free _)).mono ?_
  rintro e w3 ⟨rfl, hw⟩
  have h3 := h2.put i 5 c { S i with a := a, b := b, c := c } (by omega) rfl (by intro k hk hn; rw [upS_same]; match k, hk, hn with | 0, _, _ => rfl | 1, _, _ => rfl | 2, _, _ => rfl | 3, _, _ => rfl | 4, _, _ => rfl | 6, _, _ => rfl) hw
  rw [upS_upS] at h3
  have o3 : Only [sb] w w3 := o2.trans (hw ▸ Only.setCell _ (by simp) _)
  clear h2 o2 hw
  go_wp2_with fail
  rw [rounds_succ]
  go_wp2_with fail
  refine (store_any _ _ d _ (h3.slot i 6 (by omega) hN) (h3.free _)).mono ?_
  rintro e w4 ⟨rfl, hw⟩
  have h4 := h3.put i 6 d { S i with a := a, b := b, c := c, d := d } (by omega) rfl (by intro k hk hn; rw [upS_same]; match k, hk, hn with | 0, _, _ => rfl | 1, _, _ => rfl | 2, _, _ => rfl | 3, _, _ => rfl | 4, _, _ => rfl | 5, _, _ => rfl | j + 6, hk, hn => omega) hw
  rw [upS_upS] at h4
  have o4 : Only [sb] w w4 := o3.trans (hw ▸ Only.setCell _ (by simp) _)
  clear h3 o3 hw
  go_wp2_with fail
  rw [rounds_succ]
  go_wp2_with fail
  refine (store_any _ _ m _ (h4.slot i 1 (by omega) hN) (h4.free _)).mono ?_
  rintro e w5 ⟨rfl, hw⟩
  have h5 := h4.put i 1 m { S i with mark := m, a := a, b := b, c := c, d := d } (by omega) rfl (by intro k hk hn; rw [upS_same]; match k, hk, hn with | 0, _, _ => rfl | 2, _, _ => rfl | 3, _, _ => rfl | 4, _, _ => rfl | 5, _, _ => rfl | 6, _, _ => rfl) hw
  rw [upS_upS] at h5
  have o5 : Only [sb] w w5 := o4.trans (hw ▸ Only.setCell _ (by simp) _)
  clear h4 o4 hw
  go_wp2_with fail
  refine (store_any _ _ l _ (h5.slot i 2 (by omega) hN) (h5.free _)).mono ?_
  rintro e w6 ⟨rfl, hw⟩
  have h6 := h5.put i 2 l ⟨(S i).gen, m, l, a, b, c, d⟩ (by omega) rfl (by intro k hk hn; rw [upS_same]; match k, hk, hn with | 0, _, _ => rfl | 1, _, _ => rfl | 3, _, _ => rfl | 4, _, _ => rfl | 5, _, _ => rfl | 6, _, _ => rfl) hw
  rw [upS_upS] at h6
  have o6 : Only [sb] w w6 := o5.trans (hw ▸ Only.setCell _ (by simp) _)
  clear h5 o5 hw
  go_wp2_with fail
  go_end0
  exact ⟨rfl, h6, o6⟩

set_option maxHeartbeats 400000 in
theorem slot_holds1 (P : Addr) (sb N i k : Nat) (S : Nat → Sl) (w : World) (h : RowI w sb N (flat S) 114) (hN : i * 7 + 7 ≤ N) (hk : k < 4) (hP : w.cell? P = some (.pointer (some ⟨sb, i * 7, none⟩))) :
    Calls Try.prog 62 #[.int .i64 k, .pointer (some P)] w fun e w' => e = .returned (.int .i64 ((S i).get (3 + k))) ∧ w = w' := by
  have hc := h.slot i (3 + k) (by omega) hN
  go_enter Try.func62, Try.ntmps62
  go_wp2_with fail
  refine (load_any _ _ _ (by rw [show i * 7 + 3 + k = i * 7 + (3 + k) by omega]; exact hc)).mono ?_
  rintro e w' ⟨rfl, rfl⟩
  go_wp2_with fail
  go_ret
  exact ⟨rfl, rfl⟩

set_option maxHeartbeats 800000 in
theorem slot_holds (sb N i : Nat) (S : Nat → Sl) (w : World) (h : RowI w sb N (flat S) 114) (hN : i * 7 + 7 ≤ N) :
    Calls Try.prog 43 #[.pointer (some ⟨sb, i * 7, none⟩)] w fun e w' => e = .returned (.agg #[.int .i64 (S i).a, .int .i64 (S i).b, .int .i64 (S i).c, .int .i64 (S i).d]) ∧ Only [] w w' := by
  have hmf : ∀ (fn : Fn) (first cap : Array Value) (w : World), (Instr.makeFunc fn first cap).run Try.prog w = .ok (.func fn first cap) w := fun _ _ _ _ => rfl
  go_enter Try.func43, Try.ntmps43
  go_wp2_with fail
  refine calls_name (fun w1 => RowI w1 sb N (flat S) 114 ∧ Blk w1 w.heap.size #[.pointer (some ⟨sb, i * 7, none⟩)] 102 ∧ Blk w1 (w.heap.size + 1) #[.int .i64 0, .int .i64 0, .int .i64 0, .int .i64 0] 39 ∧ Only [] w w1) ⟨h.only ((Only.alloc [] _ _).trans (Only.alloc [] _ _)) (by simp), (Blk.new w _ _).alloc _, ?_, (Only.alloc _ _ _).trans (Only.alloc _ _ _)⟩ ?_
  · have := Blk.new (w.alloc (.cells #[.pointer (some ⟨sb, i * 7, none⟩)] 102)) #[.int .i64 0, .int .i64 0, .int .i64 0, .int .i64 0] 39
    simpa using this
  rintro w1 ⟨h1, hp, hB, hO⟩
  have hp0 : w1.cell? ⟨w.heap.size, 0, none⟩ = some (.pointer (some ⟨sb, i * 7, none⟩)) := hp.cell 0 rfl
  have hr0 := hB.cell 0 rfl
  have hr1 := hB.cell 1 rfl
  have hr2 := hB.cell 2 rfl
  have hr3 := hB.cell 3 rfl
  have hf0 := hB.free 0
  have hf1 := hB.free 1
  have hf2 := hB.free 2
  have hf3 := hB.free 3
  refine (slot_holds1 _ sb N i 0 S _ h1 hN (by omega) hp0).mono ?_
  rintro e w' ⟨rfl, rfl⟩
  go_wp2_with fail
  refine (slot_holds1 _ sb N i 1 S _ h1 hN (by omega) hp0).mono ?_
  rintro e w' ⟨rfl, rfl⟩
  go_wp2_with fail
  refine (slot_holds1 _ sb N i 2 S _ h1 hN (by omega) hp0).mono ?_
  rintro e w' ⟨rfl, rfl⟩
  go_wp2_with fail
  refine (slot_holds1 _ sb N i 3 S _ h1 hN (by omega) hp0).mono ?_
  rintro e w' ⟨rfl, rfl⟩
  go_wp2_with fail
  refine bodyPost_ret (v := .agg #[.int .i64 (S i).a, .int .i64 (S i).b, .int .i64 (S i).c, .int .i64 (S i).d]) (by simp [results, Try.results43, go_sem, hr0, hr1, hr2, hr3, Sl.get]) rfl ⟨rfl, ?_⟩
  exact hO.past (((((Only.setCell (S := [w.heap.size + 1]) w1 (a := ⟨w.heap.size + 1, 0, none⟩) (by simp) _)).trans (Only.setCell _ (by simp) _)).trans (Only.setCell _ (by simp) _)).trans (Only.setCell _ (by simp) _)) (by simp)

end Go.Proofs.Yteeibhjmjejplaa
