/- A chain, alone: New, First, Push as calls. Conditions: pool, clock and chain stand in memory as PoolAt, ClkAt, ChainAt say. -/
import Derived.Test.YteeibhjmjejplaaChainB
import Derived.Deep.Onto
namespace Go.Proofs.Yteeibhjmjejplaa
open Go.RowKit

theorem own_slice {w : World} {base : Nat} {e : TypeId} {size : Nat} {v : Value} {n : Nat} {xs : List Value} (h : w.ownsRow base e size v n xs) : ∃ ad cap, v = .slice ad n cap := by
  rcases h.2 with ⟨rfl, rfl⟩ | ⟨g, cap, cur, rfl, _⟩
  · exact ⟨_, _, rfl⟩
  · exact ⟨_, _, rfl⟩

theorem own_only {w w' : World} {base : Nat} {e : TypeId} {sz : Nat} {v : Value} {n : Nat} {xs : List Value} {T : List Nat} (h : w.ownsRow base e sz v n xs) (o : Only T w w') (hT : ∀ k, v.ownBlock = some k → k ∉ T) : w'.ownsRow base e sz v n xs := by
  obtain ⟨hl, h⟩ := h
  refine ⟨hl, ?_⟩
  rcases h with h | ⟨g, cap, cur, hv, hg, hb, hr⟩
  · exact Or.inl h
  · exact Or.inr ⟨g, cap, cur, hv, hg, Blk.only hb o (hT g (by rw [hv]; rfl)), hr⟩

def ent0 : Ent := ⟨0, .slice none 0 0, []⟩

/-- 'make([]set, n+1)'. -/
theorem make_sets (n : Nat) (h : n ≤ 5000) (w : World) : ∃ c : Array Value, c.size = (n + 1) * 2 ∧ (∀ j, j < (n + 1) * 2 → c[j]? = some (entCell (fun _ => ent0) j)) ∧
    (Instr.makeSlice 77 (.int .i64 ((n : Int) + 1)) (.int .i64 ((n : Int) + 1))).run Try.prog w = .ok (.slice (some ⟨w.heap.size, 0, none⟩) (n + 1) (n + 1)) (w.alloc (.cells c 86)) := by
  obtain ⟨i, hi, hz, hs, hb⟩ := info_parts (P := Try.prog) (e := 86) (z := .agg #[.int .i64 0, .slice none 0 0]) (size := 2) (bytes := 32) (by kernel_rfl)
  have hr := run_make (P := Try.prog) w 77 86 i _ Try.underlying77 hi hz .i64 .i64 ((n : Int) + 1) ((n : Int) + 1) (by omega) (Int.le_refl _) (by rw [hb]; omega) (by omega)
  have e : ((n : Int) + 1).toNat = n + 1 := by omega
  rw [e, hs] at hr
  refine ⟨_, ?_, ?_, hr⟩
  · exact size_madeCells _ _
  · intro j hj
    unfold madeCells
    rw [Array.getElem?_map, Array.getElem?_range, if_pos hj]
    simp only [Option.map_some, Option.some.injEq]
    show (#[Value.int .i64 0, .slice none 0 0] : Array Value)[j % 2]! = _
    unfold entCell
    rcases (show j % 2 = 0 ∨ j % 2 = 1 by omega) with h2 | h2 <;> (rw [h2]; rfl)

set_option maxHeartbeats 800000 in
theorem chain_new (A : PA) (cb n : Nat) (S : Nat → Sl) (t : Int) (fs : List Nat) (fa : Int) (w : World) (H : PoolAt w A n S t fs fa) :
    Calls Try.prog 7 #[.pointer (some ⟨A.p, 0, none⟩), .pointer (some ⟨cb, 0, none⟩)] w fun e w' => ∃ X : CA, e = .returned (.pointer (some ⟨X.x, 0, none⟩)) ∧ ChainAt w' X A cb n 0 (fun _ => ent0) ∧ Only [] w w' ∧ ∀ k, k ∈ X.all → w.heap.size ≤ k := by
  have hm := H.many
  have HS := Lib.hid (pool_slots A n S t fs fa w H)
  clear H
  go_enter Try.func7, Try.ntmps7
  go_wp2_with fail
  refine HS.out.mono ?_
  rintro e w1 ⟨v, rfl, hown, hO⟩
  obtain ⟨ad, cap, rfl⟩ := own_slice hown
  clear hown
  obtain ⟨c, hcs, hcz, hmk⟩ := make_sets n (by omega) w1
  have HC := Lib.hid hcs
  have HZ := Lib.hid hcz
  clear hcs hcz
  have hsz := hO.size
  go_wp2_with fail
  go_ret
  refine ⟨⟨w1.heap.size + 1, w1.heap.size⟩, rfl, ⟨?_, ?_, ?_⟩, ?_, ?_⟩
  · have := Blk.new (w1.alloc (.cells c 86)) #[.pointer (some ⟨A.p, 0, none⟩), .pointer (some ⟨cb, 0, none⟩), .int .i64 0, .slice (some ⟨w1.heap.size, 0, none⟩) (n + 1) (n + 1)] 81
    simpa using this
  · exact RowV.of_blk ((Blk.new w1 c 86).alloc _) HC.out HZ.out
  · simp
  · exact hO.trans ((Only.alloc [] _ _).trans (Only.alloc [] _ _))
  · intro k hk
    simp [CA.all] at hk
    omega

theorem hid_wd_index {i n : Nat} {g : Int} (h2 : i ≤ n) (hn : n ≤ 4096) (h0 : 0 ≤ g) (h3 : g ≤ 1000000000001) : ∀ w, Calls Try.prog 30 #[.int .i64 (wd i g)] w fun e w' => e = .returned (.int .i64 i) ∧ w = w' := by
  intro w
  have := word_idx (wd i g) w
  rwa [idxOf_wd (by omega) (by omega) h0 (by omega)] at this

set_option maxRecDepth 100000 in
set_option maxHeartbeats 2000000 in
theorem chain_first (X : CA) (A : PA) (cb cq n i : Nat) (Z : Nat → Ent) (S : Nat → Sl) (t : Int) (r : List Nat) (fa a b c d : Int) (w : World) (C : ChainAt w X A cb n 0 Z) (H : PoolAt w A n S t (i :: r) fa) (SP : Sep A X cb cq)
    (h1 : 1 ≤ i) (h2 : i ≤ n) (ho : (S i).gen % 2 = 0) (hg : 0 ≤ (S i).gen ∧ (S i).gen ≤ 999999999999) (ht : t + 1 ≤ 1000000000000) :
    Calls Try.prog 10 #[.pointer (some ⟨X.x, 0, none⟩), .pointer none, .agg #[.int .i64 a, .int .i64 b, .int .i64 c, .int .i64 d]] w fun e w' => e = .returned (.tuple #[.int .i64 (wd i ((S i).gen + 1)), .int .i64 0]) ∧
      PoolAt w' A n (upS S i ⟨(S i).gen + 1, 1, 0, a, b, c, d⟩) (t + 1) r fa ∧ ChainAt w' X A cb n (wd i ((S i).gen + 1)) (upE Z i ⟨wd i ((S i).gen + 1), .slice none 0 0, []⟩) ∧ Only (A.all ++ X.all) w w' := by
  have hm := H.many
  have hXl := C.lt
  have hAl := H.lt
  obtain ⟨hg0, hg1⟩ := hg
  have HW := Lib.hid (hid_wd_index (g := (S i).gen + 1) h2 hm.2 (by omega) (by omega))
  have HG := Lib.hid (show (upS S i ⟨(S i).gen + 1, 0, 0, a, b, c, d⟩ i).gen = (S i).gen + 1 by rw [upS_same])
  have HO := Lib.hid (show ((S i).gen + 1) % 2 = 1 by omega)
  have hx0 : ∀ w', Only ([w.heap.size]) w w' → True := fun _ _ => trivial
  clear hx0
  generalize hh : wd i ((S i).gen + 1) = h at *
  have HH := Lib.hid hh
  clear hh
  go_enter Try.func10, Try.ntmps10
  go_wp2_with fail
  refine wp_name (fun w1 => ChainAt w1 X A cb n 0 Z ∧ PoolAt w1 A n S t (i :: r) fa ∧ Blk w1 w.heap.size #[.int .i64 a, .int .i64 b, .int .i64 c, .int .i64 d] 39 ∧ Only [] w w1) ⟨C.only (Only.alloc [] _ _) (by simp), H.only (Only.alloc [] _ _) (by simp), Blk.new _ _ _, Only.alloc _ _ _⟩ ?_
  rintro w1 ⟨hC, hP, hB, hO1⟩
  have hc0 := hC.head.cell 0 rfl
  have b0 := hB.cell 0 rfl
  have b1 := hB.cell 1 rfl
  have b2 := hB.cell 2 rfl
  have b3 := hB.cell 3 rfl
  have hab : w.heap.size ∉ A.all := fun hm => by have := hAl _ hm; omega
  have HT := Lib.hid (pool_take A n i S t r fa a b c d 0 w1.drew (hP.only (Only.drew [] _) (by simp)) ⟨hg0, by omega⟩ ht)
  rw [HH.out] at HT
  have HC := Lib.hid hC
  have HO1 := Lib.hid hO1
  have HXA := Lib.hid (fun k hk => (SP.pool k hk).1)
  clear H C hP hC hO1
  go_cut [8, 9] (fun s8 s9 wc => s8 = .int .i64 h ∧ s9 = .int .i64 0 ∧ PoolAt wc A n (upS S i ⟨(S i).gen + 1, 0, 0, a, b, c, d⟩) (t + 1) r fa ∧ ChainAt wc X A cb n 0 Z ∧ Only A.all w wc)
  case first =>
    go_region_with (go_at_call 29; refine HT.out.mono ?_; rintro e w2 ⟨rfl, hP2, hX2⟩)
    all_goals (go_wp2_with fail; go_meet)
    all_goals exact ⟨rfl, rfl, hP2, (HC.out.only (Only.drew [] _) (by simp)).only hX2 (fun k hk hm => HXA.out k hm hk), ((HO1.out.mono (by simp)).trans (Only.drew _ _)).trans hX2⟩
  case rest =>
    obtain ⟨rfl, rfl, hP2, hC2, hO2⟩ := hcut
    clear HT HC HO1 hc0 b0 b1 b2 b3 hB
    have hc0 := hC2.head.cell 0 rfl
    have hc3 := hC2.head.cell 3 rfl
    have hr0 := hC2.row.cell (j := i * 2) (by omega)
    have hr1 := hC2.row.cell (j := i * 2 + 1) (by omega)
    have hf0 := hC2.row.free (i * 2)
    have hf1 := hC2.row.free (i * 2 + 1)
    have hil : (i : Int) < (n : Int) + 1 := by omega
    have HE := Lib.hid (fun w1 => hC2.setEnt (w1 := w1) i ⟨h, .slice none 0 0, []⟩)
    have HP2 := Lib.hid hP2
    have HO2 := Lib.hid hO2
    clear hP2 hC2 hO2
    generalize entCell Z (i * 2) = e0 at hr0
    generalize entCell Z (i * 2 + 1) = e1 at hr1
    go_upto_region 4 with fail
    go_cut [] (fun wd => PoolAt wd A n (upS S i ⟨(S i).gen + 1, 0, 0, a, b, c, d⟩) (t + 1) r fa ∧ ChainAt wd X A cb n 0 (upE Z i ⟨h, .slice none 0 0, []⟩) ∧ Only (A.all ++ X.all) w wd)
    case first =>
      go_region_with (go_at_call 30; refine (HW.out _).mono ?_; rintro e w' ⟨rfl, rfl⟩)
      all_goals (go_wp2_with fail; go_meet)
      all_goals
        obtain ⟨hC3, hX3⟩ := HE.out _ rfl
        have hX4 := hX3.trans (Only.drew _ _)
        exact ⟨HP2.out.only hX4 (fun k hk hm => HXA.out k hk hm), hC3.only (Only.drew [] _) (by simp), (HO2.out.mono (by intro k hk; simp [hk])).trans (hX4.mono (by intro k hk; simp [hk]))⟩
    case rest =>
      obtain ⟨hP3, hC3, hO3⟩ := hcut
      clear HE HP2 HO2 hr0 hr1 hf0 hf1 hc0 hc3
      have hc0 := hC3.head.cell 0 rfl
      have hM : Meets A n (upS S i ⟨(S i).gen + 1, 0, 0, a, b, c, d⟩) (t + 1) r fa h i := by
        have := meets_wd (A := A) (n := n) (i := i) (S := upS S i ⟨(S i).gen + 1, 0, 0, a, b, c, d⟩) (t := t + 1) (fs := r) (fa := fa) h1 h2 hm.2 (by rw [upS_same]; exact HO.out) (by rw [upS_same]; show 0 ≤ (S i).gen + 1; omega) (by rw [upS_same]; show (S i).gen + 1 ≤ 1000000000000; omega)
        rwa [HG.out, HH.out] at this
      have hcas := pool_cas_hit A n i _ (t + 1) r fa h 1 wc hP3 h2 hM
      rw [upS_same, upS_upS] at hcas
      have HCAS := Lib.hid hcas
      have HC3 := Lib.hid hC3
      have HO3 := Lib.hid hO3
      clear hcas hM hP3 hC3 hO3
      go_wp2_with fail
      refine HCAS.out.mono ?_
      rintro e w4 ⟨rfl, hP4, hX4⟩
      have hC4 := HC3.out.only hX4 (fun k hk hm => HXA.out k hm hk)
      have hO4 := HO3.out.trans (hX4.mono (by intro k hk; simp [hk]))
      have HP4 := Lib.hid hP4
      have HO4 := Lib.hid hO4
      have HL := Lib.hid (chain_lays X A cb n 0 _ h w4 hC4)
      clear HCAS HC3 HO3 hP4 hC4 hX4 hO4 hc0
      go_wp2_with fail
      refine HL.out.mono ?_
      rintro e w5 ⟨rfl, hC5, hX5⟩
      have HC5 := Lib.hid hC5
      have HX5 := Lib.hid hX5
      clear hC5 hX5
      go_wp2_with fail
      go_ret2
      exact ⟨rfl, HP4.out.only HX5.out (fun k hk hm => HXA.out k hk hm), HC5.out, HO4.out.trans (HX5.out.mono (by intro k hk; simp [hk]))⟩

end Go.Proofs.Yteeibhjmjejplaa
