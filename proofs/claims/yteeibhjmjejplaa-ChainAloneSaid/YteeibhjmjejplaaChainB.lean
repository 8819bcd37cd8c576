/- A chain, alone: New, settle, lays, First, Top as calls; slices.Clone of integers. Conditions: pool, clock and chain stand in memory as PoolAt, ClkAt, ChainAt say. -/
import Derived.Test.YteeibhjmjejplaaChainA
import Derived.OwnWalk
namespace Go.Proofs.Yteeibhjmjejplaa
open Go.RowKit

theorem meets_wd {A : PA} {n i : Nat} {S : Nat → Sl} {t : Int} {fs : List Nat} {fa : Int} (h1 : 1 ≤ i) (h2 : i ≤ n) (hn : n ≤ 4096) (ho : (S i).gen % 2 = 1) (h0 : 0 ≤ (S i).gen) (h3 : (S i).gen ≤ 1000000000000) : Meets A n S t fs fa (wd i (S i).gen) i :=
  meets_of h1 h2 (idxOf_wd (by omega) (by omega) h0 (by omega)) (tagOf_wd (by omega) (by omega) h0 (by omega)) ho rfl

set_option maxHeartbeats 800000 in
theorem pool_link (A : PA) (n i : Nat) (S : Nat → Sl) (t : Int) (fs : List Nat) (fa h : Int) (w : World) (H : PoolAt w A n S t fs fa) (h2 : i ≤ n) (M : Meets A n S t fs fa h i) :
    Calls Try.prog 27 #[.pointer (some ⟨A.p, 0, none⟩), .pointer none, .int .i64 h] w fun e w' => e = .returned (.tuple #[.int .i64 (S i).link, .int .i64 0]) ∧ w = w' := by
  have HM := Lib.hid (M w H)
  have hc := H.row.slot i 2 (by omega) (slot_room h2)
  rw [show (S i).get 2 = (S i).link from rfl] at hc
  clear M H
  go_enter Try.func27, Try.ntmps27
  go_wp2_with fail
  refine HM.out.mono ?_
  rintro e w' ⟨rfl, rfl⟩
  go_wp2_with fail
  refine (load_any _ _ _ hc).mono ?_
  rintro e w' ⟨rfl, rfl⟩
  go_wp2_with fail
  go_ret2
  exact ⟨rfl, rfl⟩

set_option maxRecDepth 100000 in
set_option maxHeartbeats 800000 in
theorem clone_ints (v : Value) (xs : List Int) (w : World) (h : Reads w v xs) (hl : xs.length ≤ 100000) :
    Calls Try.prog 33 #[v] w fun e w' => ∃ v', e = .returned v' ∧ w'.ownsRow w.heap.size 3 1 v' xs.length (xs.map (Value.int .i64)) ∧ Only [] w w' := by
  obtain ⟨ad, cap, rfl, h⟩ := h
  rcases ad with _ | ad
  · have hx : xs = [] := by
      rcases h with h | ⟨_, _, h, _⟩
      · exact h
      · cases h
    subst hx
    have heq := fun w => Lib.run_eql_slice_nil (P := Try.prog) w 40 3 none 0 cap 0 0 Try.underlying40
    go_enter Try.func33, Try.ntmps33
    go_wp2_with fail
    go_ret
    exact ⟨_, rfl, World.ownsRow_nil _ _ _ _, Only.refl _ _⟩
  · obtain ⟨i0, hi0, hz0, hz1, hz2⟩ := info_parts info_int
    have hnews : ∀ j u, (xs.map (Value.int .i64))[j]? = some u → (w.alloc (.cells #[] 3)).cell? (ad.add j) = some u := by
      intro j u hu
      rcases h with h | ⟨b, o, he, hb, hc⟩
      · subst h; simp at hu
      · cases he
        rw [Addr.add_lit]
        have hj : j < xs.length := by
          have := (List.getElem?_eq_some_iff.1 hu).1
          simpa using this
        have := hc j hj
        rw [(Only.alloc [] w (.cells #[] 3)).cell (p := ⟨b, o + j, none⟩) hb (by simp), this]
        simp [List.getElem?_eq_getElem hj] at hu
        simp [List.getElem?_eq_getElem hj, List.getD, hu]
    have HN := Lib.hid hnews
    clear hnews h
    have hlen : (xs.map (Value.int .i64)).length = xs.length := by simp
    have HLN := Lib.hid hlen
    clear hlen
    have heq := fun w n => Lib.run_eql_slice_nil (P := Try.prog) w 40 3 (some ad) n cap 0 0 Try.underlying40
    go_enter Try.func33, Try.ntmps33
    go_wp2_with (at_builtin; refine wpList_append_own _ rfl (.tmp 5) (.tmp 6) 40 rfl w.heap.size 3 i0 _ 1 8 Try.underlying40 hi0 hz0 hz1 hz2 rfl (by decide) _ 0 [] rfl (World.ownsRow_lit w #[] 0 (Nat.le_refl _) (by decide) rfl) ad xs.length _ (xs.map (Value.int .i64)) rfl (by rw [HLN.out, Nat.mul_one]) HN.out (fun u hu => by simp at hu; obtain ⟨x, _, rfl⟩ := hu; rfl) (by unfold maxLen; omega) (by omega) (by simp) ?_)
    intro v' w5 hown5 hg5 _
    have hO5 : Only [] w w5 := (Only.alloc [] w (.cells #[] 3)).past (Only.of_grown hg5 (S := [w.heap.size]) (by intro k hk; simpa [Value.ownBlock] using hk.symm)) (by simp)
    have HOW := Lib.hid hown5
    clear hown5 hg5
    go_wp2_with fail
    go_ret
    refine ⟨_, rfl, ?_, hO5⟩
    have := HOW.out
    simpa using this

set_option maxHeartbeats 800000 in
theorem chain_settle (X : CA) (A : PA) (cb n i : Nat) (hd : Int) (Z : Nat → Ent) (S : Nat → Sl) (t : Int) (fs : List Nat) (fa h : Int) (w : World) (C : ChainAt w X A cb n hd Z) (H : PoolAt w A n S t fs fa) (h2 : i ≤ n) (M : Meets A n S t fs fa h i) (hm : ¬ (S i).mark = 0) :
    Calls Try.prog 26 #[.pointer (some ⟨X.x, 0, none⟩), .pointer none, .int .i64 h] w fun e w' => e = .returned (.tuple #[.int .i64 (S i).mark, .int .i64 0]) ∧ w = w' := by
  have HM := Lib.hid (pool_mark A n i S t fs fa h w H h2 M)
  have hc0 := C.head.cell 0 rfl
  have hne : ((S i).mark != 0) = true := by simpa using hm
  clear M H C hm
  generalize (S i).mark = m at *
  go_enter Try.func26, Try.ntmps26
  go_wp2_with fail
  refine HM.out.mono ?_
  rintro e w' ⟨rfl, rfl⟩
  go_wp2_with fail
  go_ret2
  exact ⟨rfl, rfl⟩

set_option maxHeartbeats 800000 in
theorem chain_settle0 (X : CA) (A : PA) (cb cq n i : Nat) (hd : Int) (Z : Nat → Ent) (S : Nat → Sl) (t : Int) (fs : List Nat) (fa h now : Int) (ls : List Int) (w : World) (C : ChainAt w X A cb n hd Z) (H : PoolAt w A n S t fs fa) (K : ClkAt w cb cq now ls) (h2 : i ≤ n) (M : Meets A n S t fs fa h i) (hm : (S i).mark = 0) :
    Calls Try.prog 26 #[.pointer (some ⟨X.x, 0, none⟩), .pointer none, .int .i64 h] w fun e w' => e = .returned (.tuple #[.int .i64 now, .int .i64 0]) ∧ PoolAt w' A n (upS S i { S i with mark := now }) t fs fa ∧ Only A.all w w' := by
  have HM := Lib.hid (pool_mark A n i S t fs fa h w H h2 M)
  have HC := Lib.hid (by have := pool_cas_hit A n i S t fs fa h now w H h2 M; rwa [hm] at this)
  have HN := Lib.hid (clock_now cb cq now ls w K)
  have hc0 := C.head.cell 0 rfl
  have hc1 := C.head.cell 1 rfl
  clear M H C K
  rw [hm] at HM
  clear hm
  go_enter Try.func26, Try.ntmps26
  go_wp2_with fail
  refine HM.out.mono ?_
  rintro e w' ⟨rfl, rfl⟩
  go_wp2_with fail
  refine HN.out.mono ?_
  rintro e w' ⟨rfl, rfl⟩
  go_wp2_with fail
  refine HC.out.mono ?_
  rintro e w1 ⟨rfl, hP, hO⟩
  clear hc0 hc1
  go_wp2_with fail
  go_ret2
  exact ⟨rfl, hP, hO⟩

set_option maxHeartbeats 800000 in
theorem chain_lays (X : CA) (A : PA) (cb n : Nat) (hd : Int) (Z : Nat → Ent) (h : Int) (w : World) (C : ChainAt w X A cb n hd Z) :
    Calls Try.prog 32 #[.pointer (some ⟨X.x, 0, none⟩), .pointer none, .int .i64 hd, .int .i64 h] w fun e w' => e = .returned (.bool true) ∧ ChainAt w' X A cb n h Z ∧ Only X.all w w' := by
  have hc2 := C.head.cell 2 rfl
  have hf2 := C.head.free 2
  have HS := Lib.hid (fun w1 => C.setHead (w1 := w1) h)
  clear C
  go_enter Try.func32, Try.ntmps32
  go_wp2_with fail
  refine (step_nil _).mono ?_
  rintro e w' ⟨rfl, rfl⟩
  go_wp2_with fail
  refine (cas_hit _ hd h _ hc2 hf2).mono ?_
  rintro e w1 ⟨rfl, hw⟩
  obtain ⟨hC, hO⟩ := HS.out w1 hw
  clear hw hc2 hf2
  go_wp2_with fail
  go_ret
  exact ⟨rfl, hC, hO⟩

set_option maxHeartbeats 800000 in
theorem chain_lays_no (X : CA) (A : PA) (cb n i : Nat) (hd : Int) (Z : Nat → Ent) (S : Nat → Sl) (t : Int) (fs : List Nat) (fa old h g : Int) (w : World) (C : ChainAt w X A cb n hd Z) (hne : ¬ hd = old)
    (H : PoolAt w A n S t fs fa) (h1 : 1 ≤ i) (h2 : i ≤ n) (hi : idxOf h = i) (hg : tagOf h = g) (ho : g % 2 = 1) (hS : (S i).gen = g) (hfs : i ∉ fs) (ht : t + 1 ≤ 1000000000000) :
    Calls Try.prog 32 #[.pointer (some ⟨X.x, 0, none⟩), .pointer none, .int .i64 old, .int .i64 h] w fun e w' => e = .returned (.bool false) ∧ PoolAt w' A n (upS S i (poisoned (g + 1))) (t + 1) (i :: fs) fa ∧ Only A.all w w' := by
  have hc0 := C.head.cell 0 rfl
  have hc2 := C.head.cell 2 rfl
  have hf2 := C.head.free 2
  have HG := Lib.hid (pool_give A n i S t fs fa h g w H h1 h2 hi hg ho hS hfs ht)
  clear C H hi hg ho hS hfs ht
  go_enter Try.func32, Try.ntmps32
  go_wp2_with fail
  refine (step_nil _).mono ?_
  rintro e w' ⟨rfl, rfl⟩
  go_wp2_with fail
  refine (cas_miss _ hd old h _ hc2 hf2 hne).mono ?_
  rintro e w' ⟨rfl, rfl⟩
  go_wp2_with fail
  refine HG.out.mono ?_
  rintro e w1 ⟨rfl, hP, hO⟩
  clear hc0 hc2 hf2
  go_wp2_with fail
  go_ret
  exact ⟨rfl, hP, hO⟩

set_option maxHeartbeats 800000 in
theorem chain_top_none (X : CA) (A : PA) (cb n : Nat) (Z : Nat → Ent) (w : World) (C : ChainAt w X A cb n 0 Z) :
    Calls Try.prog 8 #[.pointer (some ⟨X.x, 0, none⟩), .pointer none] w fun e w' => e = .returned (.tuple #[.int .i64 0, .int .i64 0, .int .i64 141]) ∧ w = w' := by
  have hc2 := C.head.cell 2 rfl
  clear C
  go_enter Try.func8, Try.ntmps8
  go_wp2_with fail
  refine (step_nil _).mono ?_
  rintro e w' ⟨rfl, rfl⟩
  go_wp2_with fail
  refine (load_any _ _ _ hc2).mono ?_
  rintro e w' ⟨rfl, rfl⟩
  go_wp2_with fail
  go_ret3
  exact ⟨rfl, rfl⟩

set_option maxHeartbeats 800000 in
theorem chain_top (X : CA) (A : PA) (cb n i : Nat) (Z : Nat → Ent) (S : Nat → Sl) (t : Int) (fs : List Nat) (fa h : Int) (w : World) (C : ChainAt w X A cb n h Z) (H : PoolAt w A n S t fs fa) (h2 : i ≤ n) (M : Meets A n S t fs fa h i) (hm : ¬ (S i).mark = 0) (hh : ¬ h = 0) :
    Calls Try.prog 8 #[.pointer (some ⟨X.x, 0, none⟩), .pointer none] w fun e w' => e = .returned (.tuple #[.int .i64 h, .int .i64 (S i).mark, .int .i64 0]) ∧ w = w' := by
  have hc2 := C.head.cell 2 rfl
  have HS := Lib.hid (chain_settle X A cb n i h Z S t fs fa h w C H h2 M hm)
  have hne : (h == 0) = false := by simpa using hh
  clear C H M hm hh
  generalize (S i).mark = m at *
  go_enter Try.func8, Try.ntmps8
  go_wp2_with fail
  refine (step_nil _).mono ?_
  rintro e w' ⟨rfl, rfl⟩
  go_wp2_with fail
  refine (load_any _ _ _ hc2).mono ?_
  rintro e w' ⟨rfl, rfl⟩
  go_wp2_with fail
  refine HS.out.mono ?_
  rintro e w' ⟨rfl, rfl⟩
  go_wp2_with fail
  go_ret3
  exact ⟨rfl, rfl⟩

end Go.Proofs.Yteeibhjmjejplaa
