/- A pool, alone: Take, New as calls. Condition: the pool stands in memory as PoolAt says. -/
import Derived.Test.YteeibhjmjejplaaPoolD
namespace Go.Proofs.Yteeibhjmjejplaa
open Go.RowKit

theorem PoolAt.lt {w : World} {A : PA} {n : Nat} {S : Nat → Sl} {t : Int} {fs : List Nat} {fa : Int} (H : PoolAt w A n S t fs fa) : ∀ k, k ∈ A.all → k < w.heap.size := by
  intro k hk
  obtain ⟨nx, hp⟩ := H.pile
  have := H.head.lt; have := H.row.lt; have := hp.head.lt; have := hp.row.lt
  simp [PA.all] at hk
  omega

set_option maxHeartbeats 1000000 in
theorem pool_take (A : PA) (n i : Nat) (S : Nat → Sl) (t : Int) (r : List Nat) (fa a b c d l : Int) (w : World) (H : PoolAt w A n S t (i :: r) fa) (hg : 0 ≤ (S i).gen ∧ (S i).gen ≤ 1000000000000) (ht : t + 1 ≤ 1000000000000) :
    Calls Try.prog 29 #[.pointer (some ⟨A.p, 0, none⟩), .pointer none, .agg #[.int .i64 a, .int .i64 b, .int .i64 c, .int .i64 d], .int .i64 l] w fun e w' => e = .returned (.tuple #[.int .i64 (wd i ((S i).gen + 1)), .int .i64 0]) ∧ PoolAt w' A n (upS S i ⟨(S i).gen + 1, 0, l, a, b, c, d⟩) (t + 1) r fa ∧ Only A.all w w' := by
  have hmf : ∀ (fn : Fn) (first cap : Array Value) (w : World), (Instr.makeFunc fn first cap).run Try.prog w = .ok (.func fn first cap) w := fun _ _ _ _ => rfl
  have hlt := H.lt
  have hm := H.many
  have hir : 1 ≤ i ∧ i ≤ n := by
    obtain ⟨nx, hp⟩ := H.pile
    exact hp.range i (by simp)
  have hpA : A.p < w.heap.size := hlt _ (by simp [PA.all])
  have HL := Lib.hid hlt
  have hp1 : ∀ o1 o2 o3 o4 : Obj, ((((w.alloc o1).alloc o2).alloc o3).alloc o4).cell? ⟨A.p, 1, none⟩ = some (.pointer (some ⟨A.pb, 0, none⟩)) := fun o1 o2 o3 o4 => ((((H.head.alloc o1).alloc o2).alloc o3).alloc o4).cell 1 rfl
  have HH := Lib.hid H
  have HG := Lib.hid hg
  clear H hlt hg
  go_enter Try.func29, Try.ntmps29
  go_wp2_with fail
  refine calls_name (fun w1 => PoolAt w1 A n S t (i :: r) fa ∧ Blk w1 w.heap.size #[.pointer (some ⟨A.p, 0, none⟩)] 24 ∧ Blk w1 (w.heap.size + 1) #[.int .i64 a, .int .i64 b, .int .i64 c, .int .i64 d] 39 ∧ Blk w1 (w.heap.size + 2) #[.int .i64 l] 3 ∧ Blk w1 (w.heap.size + 3) #[.int .i64 0] 3 ∧ Only [] w w1) ⟨?_, ?_, ?_, ?_, ?_, ?_⟩ ?_
  · exact HH.out.only ((((Only.alloc [] _ _).trans (Only.alloc [] _ _)).trans (Only.alloc [] _ _)).trans (Only.alloc [] _ _)) (by simp)
  · exact (((Blk.new w _ _).alloc _).alloc _).alloc _
  · have := ((Blk.new (w.alloc (.cells #[.pointer (some ⟨A.p, 0, none⟩)] 24)) #[.int .i64 a, .int .i64 b, .int .i64 c, .int .i64 d] 39).alloc (.cells #[.int .i64 l] 3)).alloc (.cells #[.int .i64 0] 3)
    simpa using this
  · have := (Blk.new ((w.alloc (.cells #[.pointer (some ⟨A.p, 0, none⟩)] 24)).alloc (.cells #[.int .i64 a, .int .i64 b, .int .i64 c, .int .i64 d] 39)) #[.int .i64 l] 3).alloc (.cells #[.int .i64 0] 3)
    simpa using this
  · have := Blk.new (((w.alloc (.cells #[.pointer (some ⟨A.p, 0, none⟩)] 24)).alloc (.cells #[.int .i64 a, .int .i64 b, .int .i64 c, .int .i64 d] 39)).alloc (.cells #[.int .i64 l] 3)) #[.int .i64 0] 3
    simpa using this
  · exact (((Only.alloc [] _ _).trans (Only.alloc [] _ _)).trans (Only.alloc [] _ _)).trans (Only.alloc [] _ _)
  rintro w1 ⟨hP, hb0, hb1, hb2, hb3, hO⟩
  obtain ⟨nx, hPi⟩ := hP.pile
  have hn0 : ∀ j, w.heap.size + j ∉ A.all := fun j hj => by have := HL.out _ hj; omega
  refine (pile_pop A.pb A.nb n i t r nx _ _ _ _ (fun w3 => PoolAt w3 A n (upS S i ⟨(S i).gen + 1, 0, l, a, b, c, d⟩) (t + 1) r fa ∧ Blk w3 (w.heap.size + 3) #[.int .i64 (wd i ((S i).gen + 1))] 3 ∧ Only ((w.heap.size + 3) :: A.all) w w3) _ hPi ht ?_).mono ?_
  · intro w2 hQ hX
    have hP2 := (hP.piled hQ (hX.mono (by simp))).1
    have hnp : ∀ j, w.heap.size + j ∉ [A.pb] := fun j hj => hn0 j (by simp at hj; simp [PA.all, hj])
    refine (pool_take1 A n i S (t + 1) r fa a b c d l _ _ _ _ _ hP2 hir.1 hir.2 HG.out (hb0.only hX (hnp 0)) (hb1.only hX (hnp 1)) (hb2.only hX (hnp 2)) (hb3.only hX (hnp 3)) ⟨hn0 0, hn0 1, hn0 2, hn0 3⟩ ⟨by omega, by omega, by omega⟩).mono ?_
    rintro e w3 ⟨he, hP3, hh3, hX3⟩
    exact ⟨he, hP3, hh3, ((hO.mono (by simp)).trans (hX.mono (by simp [PA.all]))).trans hX3⟩
  rintro e w3 ⟨rfl, hP3, hh3, hO3⟩
  have hc := hh3.cell 0 rfl
  clear hPi hP hb0 hb1 hb2 hb3 hO hh3 hp1
  go_wp2_with fail
  go_ret2
  exact ⟨rfl, hP3, (Only.refl A.all w).past hO3 (by intro k hk; rcases List.mem_cons.1 hk with rfl | hk; exact Or.inr (by omega); exact Or.inl hk)⟩

set_option maxHeartbeats 1000000 in
theorem pool_take_full (A : PA) (n : Nat) (S : Nat → Sl) (t : Int) (fa a b c d l : Int) (w : World) (H : PoolAt w A n S t [] fa) :
    Calls Try.prog 29 #[.pointer (some ⟨A.p, 0, none⟩), .pointer none, .agg #[.int .i64 a, .int .i64 b, .int .i64 c, .int .i64 d], .int .i64 l] w fun e w' => e = .returned (.tuple #[.int .i64 0, .int .i64 102]) ∧ Only [] w w' := by
  have hmf : ∀ (fn : Fn) (first cap : Array Value) (w : World), (Instr.makeFunc fn first cap).run Try.prog w = .ok (.func fn first cap) w := fun _ _ _ _ => rfl
  have hpA : A.p < w.heap.size := H.lt _ (by simp [PA.all])
  have hp1 : ∀ o1 o2 o3 o4 : Obj, ((((w.alloc o1).alloc o2).alloc o3).alloc o4).cell? ⟨A.p, 1, none⟩ = some (.pointer (some ⟨A.pb, 0, none⟩)) := fun o1 o2 o3 o4 => ((((H.head.alloc o1).alloc o2).alloc o3).alloc o4).cell 1 rfl
  have HH := Lib.hid H
  clear H
  go_enter Try.func29, Try.ntmps29
  go_wp2_with fail
  have hO := (((Only.alloc [] w (.cells #[.pointer (some ⟨A.p, 0, none⟩)] 24)).trans (Only.alloc [] _ (.cells #[.int .i64 a, .int .i64 b, .int .i64 c, .int .i64 d] 39))).trans (Only.alloc [] _ (.cells #[.int .i64 l] 3))).trans (Only.alloc [] _ (.cells #[.int .i64 0] 3))
  have HO := Lib.hid hO
  clear hO
  refine calls_name (fun w1 => PoolAt w1 A n S t [] fa ∧ Only [] w w1) ⟨HH.out.only HO.out (by simp), HO.out⟩ ?_
  rintro w1 ⟨hP, hO⟩
  obtain ⟨nx, hPi⟩ := hP.pile
  refine (pile_pop_none A.pb A.nb n t nx _ _ hPi).mono ?_
  rintro e w' ⟨rfl, rfl⟩
  go_wp2_with fail
  go_ret2
  exact ⟨rfl, hO⟩

/-- 'make([]slot, n+1)'. -/
theorem make_slots (n : Nat) (h : n ≤ 5000) (w : World) : ∃ c : Array Value, c.size = (n + 1) * 7 ∧ (∀ j, j < (n + 1) * 7 → c[j]? = some (.int .i64 0)) ∧
    (Instr.makeSlice 65 (.int .i64 ((n : Int) + 1)) (.int .i64 ((n : Int) + 1))).run Try.prog w = .ok (.slice (some ⟨w.heap.size, 0, none⟩) (n + 1) (n + 1)) (w.alloc (.cells c 114)) := by
  obtain ⟨i, hi, hz, hs, hb⟩ := info_parts (P := Try.prog) (e := 114) (z := .agg #[.int .i64 0, .int .i64 0, .int .i64 0, .int .i64 0, .int .i64 0, .int .i64 0, .int .i64 0]) (size := 7) (bytes := 56) (by kernel_rfl)
  have hr := run_make (P := Try.prog) w 65 114 i _ Try.underlying65 hi hz .i64 .i64 ((n : Int) + 1) ((n : Int) + 1) (by omega) (Int.le_refl _) (by rw [hb]; omega) (by omega)
  have e : ((n : Int) + 1).toNat = n + 1 := by omega
  rw [e, hs] at hr
  refine ⟨_, ?_, ?_, hr⟩
  · exact size_madeCells _ _
  · intro j hj
    have hm : j % 7 < 7 := Nat.mod_lt _ (by omega)
    have key : ∀ k, k < 7 → (#[Value.int .i64 0, .int .i64 0, .int .i64 0, .int .i64 0, .int .i64 0, .int .i64 0, .int .i64 0] : Array Value)[k]! = .int .i64 0 := by
      intro k hk
      match k, hk with
      | 0, _ => rfl
      | 1, _ => rfl
      | 2, _ => rfl
      | 3, _ => rfl
      | 4, _ => rfl
      | 5, _ => rfl
      | 6, _ => rfl
    unfold madeCells
    rw [Array.getElem?_map, Array.getElem?_range, if_pos hj]
    simp only [Option.map_some, Option.some.injEq]
    exact key (j % 7) hm

/-- A slot that was never taken. -/
def slot0 : Sl := ⟨0, 0, 0, 0, 0, 0, 0⟩

theorem flat_slot0 (j : Nat) : flat (fun _ => slot0) j = 0 := by
  unfold flat
  have hm : j % 7 < 7 := Nat.mod_lt _ (by omega)
  generalize j % 7 = k at hm
  match k, hm with
  | 0, _ => rfl
  | 1, _ => rfl
  | 2, _ => rfl
  | 3, _ => rfl
  | 4, _ => rfl
  | 5, _ => rfl
  | 6, _ => rfl

set_option maxHeartbeats 800000 in
theorem pool_new (n : Nat) (h1 : 1 ≤ n) (h2 : n ≤ 4096) (w : World) :
    Calls Try.prog 5 #[.int .i64 n] w fun e w' => ∃ A : PA, e = .returned (.tuple #[.pointer (some ⟨A.p, 0, none⟩), .int .i64 0]) ∧ PoolAt w' A n (fun _ => slot0) 0 (List.range' 1 n) 0 ∧ Only [] w w' ∧ ∀ k, k ∈ A.all → w.heap.size ≤ k := by
  go_enter Try.func5, Try.ntmps5
  go_wp2_with fail
  refine (pile_new n h1 h2 w).mono ?_
  rintro e w1 ⟨rfl, hP, hO⟩
  obtain ⟨c, hcs, hcz, hmk⟩ := make_slots n (by omega) w1
  have HC := Lib.hid hcs
  have HZ := Lib.hid hcz
  clear hcs hcz
  have hsz := hO.size
  have hlp := hP.head.lt
  have hlq := hP.row.lt
  go_wp2_with fail
  go_ret2
  refine ⟨⟨w1.heap.size + 1, w1.heap.size, w.heap.size + 1, w.heap.size⟩, rfl, ⟨?_, ?_, ⟨_, hP.only ((Only.alloc [] _ _).trans (Only.alloc [] _ _)) (by simp) (by simp)⟩, ?_⟩, ?_, ?_⟩
  · have := Blk.new (w1.alloc (.cells c 114)) #[.slice (some ⟨w1.heap.size, 0, none⟩) (n + 1) (n + 1), .pointer (some ⟨w.heap.size + 1, 0, none⟩), .int .i64 0] 72
    simpa using this
  · refine RowI.of_blk ((Blk.new w1 c 114).alloc _) HC.out ?_
    intro j hj
    rw [flat_slot0]
    exact HZ.out j hj
  · refine ⟨?_, ?_, ?_, ?_, ?_⟩ <;> simp <;> omega
  · exact hO.trans ((Only.alloc [] _ _).trans (Only.alloc [] _ _))
  · intro k hk
    simp [PA.all] at hk
    omega

end Go.Proofs.Yteeibhjmjejplaa
