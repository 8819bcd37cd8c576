/- skeinruns.Ints of equal lists; a chain's alive, Versions, Set, Cut, At as calls, alone. Conditions: pool and chain stand in memory as PoolAt, ChainAt say. -/
import Derived.Test.YteeibhjmjejplaaChainD
namespace Go.Proofs.Yteeibhjmjejplaa
open Go.RowKit

set_option maxHeartbeats 800000 in
theorem runs_ints (v1 v2 : Value) (xs : List Int) (w : World) (h1 : Reads w v1 xs) (h2 : Reads w v2 xs) (hl : xs.length ≤ 100000) :
    Calls Try.prog 12 #[v1, v2] w fun e w' => e = .returned (.bool true) ∧ Only [] w w' := by
  obtain ⟨a1, c1, rfl, h1⟩ := h1
  obtain ⟨a2, c2, rfl, h2⟩ := h2
  have H1 := Lib.hid h1
  have H2 := Lib.hid h2
  clear h1 h2
  go_enter Try.func12, Try.ntmps12
  go_wp2_with fail
  go_loopg [5] xs.length (fun g s5 wr => ∃ k : Nat, k + g = xs.length ∧ s5 = .int .i64 k ∧ Only [] w wr)
  case atStart => exact ⟨0, by omega, rfl, Only.refl _ _⟩
  case round =>
    obtain ⟨k, hk, rfl, hO⟩ := hrel
    have HK := Lib.hid hk
    by_cases hkn : k < xs.length
    · obtain ⟨b1, o1, rfl, hb1, hc1⟩ := H1.out.resolve_left (fun e => by rw [e] at hkn; exact absurd hkn (Nat.not_lt_zero _))
      obtain ⟨b2, o2, rfl, hb2, hc2⟩ := H2.out.resolve_left (fun e => by rw [e] at hkn; exact absurd hkn (Nat.not_lt_zero _))
      have hx1 := (hO.cell (p := ⟨b1, o1 + k, none⟩) hb1 (by simp)).trans (hc1 k hkn)
      have hx2 := (hO.cell (p := ⟨b2, o2 + k, none⟩) hb2 (by simp)).trans (hc2 k hkn)
      generalize xs.getD k 0 = x at hx1 hx2
      have HO := Lib.hid hO
      have hki : (k : Int) < xs.length := by omega
      have hk1 : (k : Int) ≤ 100000 := by omega
      clear hc1 hc2 hk hO
      go_wp2_with fail
      go_quiet (fail)
      go_wp2_with fail
      go_roundg (gk - 1)
      case measure => have := HK.out; omega
      case rel => exact ⟨k + 1, by have := HK.out; omega, by go_num, HO.out.trans (Only.drewN [] _ _)⟩
    · have hkn' : k = xs.length := by omega
      subst hkn'
      clear hk
      go_wp2_with fail
      go_ret
      exact ⟨rfl, hO⟩

theorem slotsCells_at (S : Nat → Sl) : ∀ (n m j : Nat), m < n → j < 7 → (slotsCells S n)[m * 7 + j]? = (slotCells (S (m + 1)))[j]? := by
  intro n
  induction n with
  | zero => intro m j h; omega
  | succ n ih =>
    intro m j hm hj
    rw [slotsCells_succ]
    by_cases h : m < n
    · rw [List.getElem?_append_left (by rw [slotsCells_length]; omega)]
      exact ih m j h hj
    · obtain rfl : m = n := by omega
      rw [List.getElem?_append_right (by rw [slotsCells_length]; omega), slotsCells_length]
      congr 1
      omega

theorem slots_at {w : World} {base n cap : Nat} {ad : Option Addr} {S : Nat → Sl} (h : w.ownsRow base 99 7 (.slice ad n cap) n (slotsCells S n)) {m : Nat} (hm : m < n) :
    ∃ g, ad = some ⟨g, 0, none⟩ ∧ base ≤ g ∧ g < w.heap.size ∧ n ≤ cap ∧ (∀ j u, (slotCells (S (m + 1)))[j]? = some u → w.cell? ⟨g, m * 7 + j, none⟩ = some u) := by
  have hlt := h.lt
  rcases h.2 with ⟨hv, h0⟩ | ⟨g, cap', cur, hv, hg, hb, hnc, hm', hs, ht⟩
  · cases hv; omega
  · cases hv
    refine ⟨g, rfl, hg, (hlt g rfl).2, hnc, fun j u hu => ?_⟩
    have hj : j < 7 := (List.getElem?_eq_some_iff.1 hu).1
    have := h.cells (g := g) rfl (m * 7 + j) u (by rw [slotsCells_at S n m j hm hj]; exact hu)
    rw [Addr.add_lit] at this
    simpa using this

set_option maxHeartbeats 1600000 in
theorem chain_alive (xp : Value) (base n cap m : Nat) (ad : Option Addr) (S : Nat → Sl) (w : World) (hs : w.ownsRow base 99 7 (.slice ad n cap) n (slotsCells S n)) (hm : m < n) (hn : n ≤ 4096)
    (ho : (S (m + 1)).gen % 2 = 1) (h0 : 0 ≤ (S (m + 1)).gen) (h3 : (S (m + 1)).gen ≤ 1000000000000) :
    Calls Try.prog 40 #[xp, .slice ad n cap, .int .i64 (wd ((m : Int) + 1) (S (m + 1)).gen)] w fun e w' => e = .returned (.tuple #[.agg #[.int .i64 (S (m + 1)).gen, .int .i64 (S (m + 1)).a, .int .i64 (S (m + 1)).b, .int .i64 (S (m + 1)).c, .int .i64 (S (m + 1)).d, .int .i64 (S (m + 1)).mark, .int .i64 (S (m + 1)).link], .bool true]) ∧ Only [] w w' := by
  obtain ⟨g, rfl, hbg, hgl, hnc, hc⟩ := slots_at hs hm
  have HI := Lib.hid (fun w => (show Calls Try.prog 30 #[.int .i64 (wd ((m : Int) + 1) (S (m + 1)).gen)] w fun e w' => e = .returned (.int .i64 ((m : Int) + 1)) ∧ w = w' by
    have := word_idx (wd ((m : Int) + 1) (S (m + 1)).gen) w
    rwa [idxOf_wd (by omega) (by omega) h0 (by omega)] at this))
  have HT := Lib.hid (fun w => (show Calls Try.prog 57 #[.int .i64 (wd ((m : Int) + 1) (S (m + 1)).gen)] w fun e w' => e = .returned (.int .i64 (S (m + 1)).gen) ∧ w = w' by
    have := word_tg (wd ((m : Int) + 1) (S (m + 1)).gen) w
    rwa [tagOf_wd (by omega) (by omega) h0 (by omega)] at this))
  generalize hh : wd ((m : Int) + 1) (S (m + 1)).gen = h at *
  clear hh hs
  have k0 := hc 0 _ rfl
  have k1 := hc 1 _ rfl
  have k2 := hc 2 _ rfl
  have k3 := hc 3 _ rfl
  have k4 := hc 4 _ rfl
  have k5 := hc 5 _ rfl
  have k6 := hc 6 _ rfl
  clear hc
  generalize (S (m + 1)).gen = gn at *
  generalize (S (m + 1)).a = xa at *
  generalize (S (m + 1)).b = xb at *
  generalize (S (m + 1)).c = xc at *
  generalize (S (m + 1)).d = xd at *
  generalize (S (m + 1)).mark = xm at *
  generalize (S (m + 1)).link = xl at *
  have d1 : decide ((m : Int) + 1 < 1) = false := by simp; omega
  have d2 : decide ((n : Int) < (m : Int) + 1) = false := by simp; omega
  have d3 : (gn % 2 == 0) = false := by simp; omega
  go_enter Try.func40, Try.ntmps40
  go_wp2_with fail
  refine calls_name (fun w1 => Blk w1 w.heap.size #[.int .i64 0, .int .i64 0, .int .i64 0, .int .i64 0, .int .i64 0, .int .i64 0, .int .i64 0] 99 ∧ Only [] w w1) ⟨Blk.new _ _ _, Only.alloc _ _ _⟩ ?_
  rintro w1 ⟨hB, hO⟩
  refine (HI.out _).mono ?_
  rintro e w' ⟨rfl, rfl⟩
  have q0 := (hO.cell (p := ⟨g, m * 7, none⟩) hgl (by simp)).trans k0
  have q1 := (hO.cell (p := ⟨g, m * 7 + 1, none⟩) hgl (by simp)).trans k1
  have q2 := (hO.cell (p := ⟨g, m * 7 + 2, none⟩) hgl (by simp)).trans k2
  have q3 := (hO.cell (p := ⟨g, m * 7 + 3, none⟩) hgl (by simp)).trans k3
  have q4 := (hO.cell (p := ⟨g, m * 7 + 4, none⟩) hgl (by simp)).trans k4
  have q5 := (hO.cell (p := ⟨g, m * 7 + 5, none⟩) hgl (by simp)).trans k5
  have q6 := (hO.cell (p := ⟨g, m * 7 + 6, none⟩) hgl (by simp)).trans k6
  clear k0 k1 k2 k3 k4 k5 k6
  have HO := Lib.hid hO
  have HB := Lib.hid hB
  clear hO
  have b0 := hB.cell 0 rfl
  have b1 := hB.cell 1 rfl
  have b2 := hB.cell 2 rfl
  have b3 := hB.cell 3 rfl
  have b4 := hB.cell 4 rfl
  have b5 := hB.cell 5 rfl
  have b6 := hB.cell 6 rfl
  have f0 := hB.free 0
  have f1 := hB.free 1
  have f2 := hB.free 2
  have f3 := hB.free 3
  have f4 := hB.free 4
  have f5 := hB.free 5
  have f6 := hB.free 6
  clear hB
  go_wp2_with fail
  go_quiet ((go_at_call 57; exact Calls.quiet_of_same ((HT.out _).mono fun _ _ h => ⟨h.1, h.2.symm⟩)))
  go_wp2_with fail
  refine bodyPost_ret (v := .tuple #[.agg #[.int .i64 gn, .int .i64 xa, .int .i64 xb, .int .i64 xc, .int .i64 xd, .int .i64 xm, .int .i64 xl], .bool true]) (by simp [results, Try.results40, go_sem, b0, b1, b2, b3, b4, b5, b6]) rfl ⟨rfl, ?_⟩
  exact (HO.out.trans (Only.drewN [] _ nq)).past ((((((((Only.setCell (S := [w.heap.size]) (w1.drewN nq) (a := ⟨w.heap.size, 0, none⟩) (by simp) _)).trans (Only.setCell _ (by simp) _)).trans (Only.setCell _ (by simp) _)).trans (Only.setCell _ (by simp) _)).trans (Only.setCell _ (by simp) _)).trans (Only.setCell _ (by simp) _)).trans (Only.setCell _ (by simp) _)) (by simp)

theorem Only.put {w w' : World} {a : Addr} {v : Value} (h : Only [] w w') (hb : w.heap.size ≤ a.block) : Only [] w (w'.setCell a v) := h.past (Only.setCell (S := [a.block]) w' (by simp) v) (by simpa using hb)

theorem Blk.put {w : World} {b : Nat} {vs vs' : Array Value} {T : TypeId} (h : Blk w b vs T) (o : Nat) (v : Value) (hv : vs.setIfInBounds o v = vs') : Blk (w.setCell ⟨b, o, none⟩ v) b vs' T := hv ▸ h.set_same o v

theorem blk_seven (w : World) (z0 z1 z2 z3 z4 z5 z6 a b c d e f g : Value) (T : TypeId) : Blk ((((((((w.alloc (.cells #[z0, z1, z2, z3, z4, z5, z6] T)).setCell ⟨w.heap.size, 0, none⟩ a).setCell ⟨w.heap.size, 1, none⟩ b).setCell ⟨w.heap.size, 2, none⟩ c).setCell ⟨w.heap.size, 3, none⟩ d).setCell ⟨w.heap.size, 4, none⟩ e).setCell ⟨w.heap.size, 5, none⟩ f).setCell ⟨w.heap.size, 6, none⟩ g) w.heap.size #[a, b, c, d, e, f, g] T := by
  have h0 := Blk.new w #[z0, z1, z2, z3, z4, z5, z6] T
  generalize w.alloc (.cells #[z0, z1, z2, z3, z4, z5, z6] T) = w0 at h0 ⊢
  generalize w.heap.size = k at h0 ⊢
  have h1 := h0.put 0 a (vs' := #[a, z1, z2, z3, z4, z5, z6]) rfl
  generalize w0.setCell ⟨k, 0, none⟩ a = w1 at h1 ⊢
  have h2 := h1.put 1 b (vs' := #[a, b, z2, z3, z4, z5, z6]) rfl
  generalize w1.setCell ⟨k, 1, none⟩ b = w2 at h2 ⊢
  have h3 := h2.put 2 c (vs' := #[a, b, c, z3, z4, z5, z6]) rfl
  generalize w2.setCell ⟨k, 2, none⟩ c = w3 at h3 ⊢
  have h4 := h3.put 3 d (vs' := #[a, b, c, d, z4, z5, z6]) rfl
  generalize w3.setCell ⟨k, 3, none⟩ d = w4 at h4 ⊢
  have h5 := h4.put 4 e (vs' := #[a, b, c, d, e, z5, z6]) rfl
  generalize w4.setCell ⟨k, 4, none⟩ e = w5 at h5 ⊢
  have h6 := h5.put 5 f (vs' := #[a, b, c, d, e, f, z6]) rfl
  generalize w5.setCell ⟨k, 5, none⟩ f = w6 at h6 ⊢
  exact h6.put 6 g rfl

theorem hands_one (xs : List Int) (h : Int) : (xs ++ [h]).map (Value.int .i64) = xs.map (Value.int .i64) ++ [.int .i64 h] := by simp

/-- The handles of a list of slots. -/
def hands (S : Nat → Sl) (L : List Nat) : List Int := L.map fun i : Nat => wd i (S i).gen

theorem hands_take {S : Nat → Sl} {L : List Nat} {k i : Nat} (h : L[k]? = some i) : hands S (L.take (k + 1)) = hands S (L.take k) ++ [wd i (S i).gen] := by
  unfold hands
  rw [List.take_add_one, h]
  simp

set_option maxHeartbeats 1600000 in
theorem chain_versions (X : CA) (A : PA) (cb n : Nat) (Z : Nat → Ent) (S : Nat → Sl) (t : Int) (fs : List Nat) (fa : Int) (L : List Nat) (w : World) (C : ChainAt w X A cb n (hdOf S L) Z) (H : PoolAt w A n S t fs fa) (V : Vers n S L) (hL : L.length ≤ n) :
    Calls Try.prog 16 #[.pointer (some ⟨X.x, 0, none⟩)] w fun e w' => ∃ v, e = .returned v ∧ w'.ownsRow w.heap.size 3 1 v L.length ((hands S L).map (Value.int .i64)) ∧ Only [] w w' := by
  have hm := H.many
  have hc0 := C.head.cell 0 rfl
  have HS := Lib.hid (pool_slots A n S t fs fa w H)
  have HC := Lib.hid C
  have HV := Lib.hid V
  obtain ⟨i0, hi0, hz0, hz1, hz2⟩ := info_parts info_int
  clear C H V
  go_enter Try.func16, Try.ntmps16
  go_wp2_with fail
  refine HS.out.mono ?_
  rintro e w1 ⟨v, rfl, hown, hO⟩
  obtain ⟨ad, cap, rfl⟩ := own_slice hown
  have hC1 := HC.out.only hO (by simp)
  have hc2 := hC1.head.cell 2 rfl
  have HOWN := Lib.hid hown
  have HSZ := Lib.hid (fun b hb => (hown.lt b hb).2)
  have HO := Lib.hid hO
  have HO1 := Lib.hid hO.size
  clear hown hO hC1 hc0
  go_wp2_with fail
  refine (load_any _ _ _ hc2).mono ?_
  rintro e w' ⟨rfl, rfl⟩
  clear hc2
  go_wp2_with fail
  go_loopg [4, 5] L.length (fun g s4 s5 wr => ∃ k : Nat, k + g = L.length ∧ s5 = .int .i64 (hdOf S (L.drop k)) ∧ wr.ownsRow w1.heap.size 3 1 s4 k ((hands S (L.take k)).map (Value.int .i64)) ∧ wr.ownsRow w.heap.size 99 7 (.slice ad n cap) n (slotsCells S n) ∧ w1.heap.size ≤ wr.heap.size ∧ Only [] w wr)
  case atStart => exact ⟨0, by omega, rfl, (by simpa [hands] using World.ownsRow_nil _ _ _ _), HOWN.out, Nat.le_refl _, HO.out⟩
  case round =>
    obtain ⟨k, hk, rfl, hown, hsl, hap, hO⟩ := hrel
    have HK := Lib.hid hk
    have HSL := Lib.hid hsl
    clear hsl
    obtain ⟨ado, capo, rfl⟩ := own_slice hown
    have HW := Lib.hid hown
    clear hown
    by_cases hkn : k < L.length
    · obtain ⟨i, hi⟩ : ∃ i, L[k]? = some i := ⟨_, List.getElem?_eq_getElem hkn⟩
      have hiL : i ∈ L := List.mem_of_getElem? hi
      obtain ⟨hi1, hi2⟩ := HV.out.range i hiL
      obtain ⟨ho, h0, h3⟩ := HV.out.odd i hiL
      obtain ⟨m, rfl⟩ : ∃ m, i = m + 1 := ⟨i - 1, by omega⟩
      have hkn2 : (k : Int) < n := by omega
      have hk4 : k ≤ 4096 := by omega
      have hnx := HV.out.links.next hi
      have hhd := hdOf_drop (S := S) hi
      have hht := hands_take (S := S) hi
      have hwr := wd_range (x := ((m + 1 : Nat) : Int)) (t := (S (m + 1)).gen) (by omega) (by omega) h0 (by omega)
      have hne : (wd ((m : Int) + 1) (S (m + 1)).gen != 0) = true := by
        simp
        unfold wd
        omega
      rw [hhd, show ((m + 1 : Nat) : Int) = (m : Int) + 1 by omega]
      rw [show ((m + 1 : Nat) : Int) = (m : Int) + 1 by omega] at hht
      have HAL := Lib.hid (chain_alive (.pointer (some ⟨X.x, 0, none⟩)) w.heap.size n cap m ad S wr HSL.out (by omega) hm.2 ho h0 (by omega))
      have HHT := Lib.hid hht
      have HNX := Lib.hid hnx
      have HO := Lib.hid hO
      generalize hh : wd ((m : Int) + 1) (S (m + 1)).gen = h at *
      clear hnx hht hhd hwr ho h0 h3 hh hk hO hi hiL
      generalize (S (m + 1)).gen = gn at *
      generalize (S (m + 1)).a = xa at *
      generalize (S (m + 1)).b = xb at *
      generalize (S (m + 1)).c = xc at *
      generalize (S (m + 1)).d = xd at *
      generalize (S (m + 1)).mark = xm at *
      generalize hxl : (S (m + 1)).link = xl at *
      have HXL := Lib.hid hxl
      clear hxl
      go_wp2_with fail
      refine HAL.out.mono ?_
      rintro e w2 ⟨rfl, hO2⟩
      have hw2 := own_only HW.out hO2 (by simp)
      have hs2 := own_only HSL.out hO2 (by simp)
      have hb2 := HO.out.trans hO2
      have HW2 := Lib.hid hw2
      have HS2 := Lib.hid hs2
      have HB2 := Lib.hid hb2
      have HZ2 := Lib.hid (show w1.heap.size ≤ w2.heap.size from Nat.le_trans hap hO2.size)
      clear hw2 hs2 hb2 hO2
      go_upto_region 7 with fail
      refine wp_name (fun w3 => Blk w3 w2.heap.size #[.int .i64 gn, .int .i64 xa, .int .i64 xb, .int .i64 xc, .int .i64 xd, .int .i64 xm, .int .i64 xl] 99 ∧ Only [] w2 w3) ⟨Blk.new _ _ _, Only.alloc _ _ _⟩ ?_
      rintro w3 ⟨hB3, hO3⟩
      have hw3 := own_only HW2.out hO3 (by simp)
      have hs3 := own_only HS2.out hO3 (by simp)
      have hb3 := HB2.out.trans hO3
      have HZ3 := Lib.hid (show w1.heap.size ≤ w3.heap.size by have h5 := hO3.size; have h6 := HZ2.out; omega)
      have HW3 := Lib.hid hw3
      have HS3 := Lib.hid hs3
      have HB3 := Lib.hid hb3
      have HBB := Lib.hid hB3
      have HN3 := Lib.hid (show (w3.alloc (.cells #[.int .i64 h] 3)).cell? ⟨w3.heap.size, 0, none⟩ = some (.int .i64 h) from (Blk.new w3 #[.int .i64 h] 3).cell 0 rfl)
      have HWL := Lib.hid hw3.lt
      have HLT := Lib.hid (show w2.heap.size < w3.heap.size from hB3.lt)
      have HW2L := Lib.hid HW2.out.lt
      generalize w2.heap.size = sb at *
      clear hw3 hs3 hb3 hO3 hB3 HW2 HS2 HB2
      clear w2
      go_wp2_with (at_builtin; refine wpList_append_own _ rfl (.tmp 35) (.tmp 37) 40 rfl w1.heap.size 3 i0 _ 1 8 Try.underlying40 hi0 hz0 hz1 hz2 rfl (by decide) _ _ _ rfl (HW3.out.alloc _) ⟨w3.heap.size, 0, none⟩ 1 1 [.int .i64 h] rfl rfl (fun j u hu => by cases j with | zero => simp at hu; subst hu; exact HN3.out | succ j => simp at hu) (fun u hu => by simp at hu; subst hu; rfl) (by unfold maxLen; omega) (by omega) (by have := HZ3.out; simp; omega) ?_)
      intro v' w5 hown5 hg5 _
      have hX5 : Only (Value.slice ado k capo).ownBlock.toList w3 w5 := (Only.alloc _ _ _).trans (Only.of_grown hg5 (by intro k hk; simp [hk]))
      have hB5 := HBB.out.only hX5 (by intro hm; have := (HW2L.out sb (by simpa using hm)).2; omega)
      have hs5 := own_only HS3.out hX5 (fun b hb hm => by have h5 := (HWL.out b (by simpa using hm)).1; have h6 := HSZ.out b hb; omega)
      have hO5 := HB3.out.past hX5 (by intro b hm; right; have h5 := (HWL.out b (by simpa using hm)).1; have h6 := HO1.out; omega)
      have hb6 := hB5.cell 6 rfl
      have hap5 : w1.heap.size ≤ w5.heap.size := by have := hX5.size; have := HZ3.out; omega
      rw [← hands_one] at hown5
      have HOWN5 := Lib.hid hown5
      have HS5 := Lib.hid hs5
      have HO5 := Lib.hid hO5
      have HAP5 := Lib.hid hap5
      clear hown5 hg5 hX5 hB5 hs5 hO5 hap5
      go_wp2_with fail
      go_roundg (gk - 1)
      case measure => have := HK.out; omega
      case rel => exact ⟨k + 1, by have := HK.out; omega, by rw [← HNX.out], by rw [HHT.out]; exact HOWN5.out, HS5.out, HAP5.out, HO5.out⟩
    · have hkn' : k = L.length := by omega
      subst hkn'
      clear hk
      rw [hdOf_end]
      go_wp2_with fail
      go_ret
      refine ⟨_, rfl, ?_, hO⟩
      have := HW.out.mono HO1.out
      rwa [List.take_length] at this

end Go.Proofs.Yteeibhjmjejplaa
