/- Which places came already: sixty-five words of bits (pile's met), as a value; with, and the comparison of two, as calls. No condition but the place's range. -/
import Derived.Test.YteeibhjmjejplaaRow
import Derived.Test.YteeibhjmjejplaaPile
namespace Go.Proofs.Yteeibhjmjejplaa
open Go.RowKit

/-- The bits of a word j that the places pre have set. -/
def bitsOf (pre : List Nat) (j : Nat) : Nat := pre.foldl (fun a x => if x / 64 = j then a ||| 2 ^ (x % 64) else a) 0

theorem bitsOf_snoc (pre : List Nat) (x j : Nat) : bitsOf (pre ++ [x]) j = if x / 64 = j then bitsOf pre j ||| 2 ^ (x % 64) else bitsOf pre j := by
  simp [bitsOf, List.foldl_append]

theorem bitsOf_lt (pre : List Nat) (j : Nat) : bitsOf pre j < 2 ^ 64 := by
  unfold bitsOf
  suffices h : ∀ (l : List Nat) (a : Nat), a < 2 ^ 64 → l.foldl (fun a x => if x / 64 = j then a ||| 2 ^ (x % 64) else a) a < 2 ^ 64 from h pre 0 (by decide)
  intro l
  induction l with
  | nil => intro a h; exact h
  | cons x l ih =>
    intro a h
    refine ih _ ?_
    dsimp only
    split
    · exact Nat.or_lt_two_pow h (Nat.pow_lt_pow_right (by decide) (Nat.mod_lt _ (by decide)))
    · exact h

theorem bitsOf_test (pre : List Nat) (j k : Nat) (h : (bitsOf pre j).testBit k = true) : ∃ x, x ∈ pre ∧ x / 64 = j ∧ x % 64 = k := by
  unfold bitsOf at h
  suffices hh : ∀ (l : List Nat) (a : Nat), (l.foldl (fun a x => if x / 64 = j then a ||| 2 ^ (x % 64) else a) a).testBit k = true → a.testBit k = true ∨ ∃ x, x ∈ l ∧ x / 64 = j ∧ x % 64 = k by
    rcases hh pre 0 h with h0 | h0
    · simp at h0
    · exact h0
  intro l
  induction l with
  | nil => intro a h; exact Or.inl h
  | cons x l ih =>
    intro a h
    rcases ih _ h with h0 | ⟨y, hy, hj⟩
    · dsimp only at h0
      split at h0
      · rename_i hx
        rw [Nat.testBit_or, Bool.or_eq_true, Nat.testBit_two_pow] at h0
        rcases h0 with h0 | h0
        · exact Or.inl h0
        · exact Or.inr ⟨x, by simp, hx, by simpa using h0⟩
      · exact Or.inl h0
    · exact Or.inr ⟨y, by simp [hy], hj⟩

theorem bitsOf_new {pre : List Nat} {x : Nat} (h : x ∉ pre) : bitsOf pre (x / 64) ||| 2 ^ (x % 64) ≠ bitsOf pre (x / 64) := by
  intro e
  have h1 : (bitsOf pre (x / 64) ||| 2 ^ (x % 64)).testBit (x % 64) = true := by
    rw [Nat.testBit_or, Nat.testBit_two_pow]; simp
  rw [e] at h1
  obtain ⟨y, hy, hj, hk⟩ := bitsOf_test _ _ _ h1
  have : y = x := by omega
  exact h (this ▸ hy)

/-- The value of the words. -/
def metV (pre : List Nat) : Array Value := ((List.range 65).map fun j => Value.int .u64 (bitsOf pre j)).toArray

theorem metV_size (pre : List Nat) : (metV pre).size = 65 := by simp [metV]
theorem metV_get (pre : List Nat) {j : Nat} (h : j < 65) : (metV pre)[j]? = some (.int .u64 (bitsOf pre j)) := by simp [metV, h]
theorem metV_one (pre : List Nat) : (metV pre).all (·.oneCell') = true := by
  rw [Array.all_eq_true_iff_forall_mem]
  intro v hv
  simp [metV] at hv
  obtain ⟨j, _, rfl⟩ := hv
  rfl

theorem metV_set (pre : List Nat) (x : Nat) : (metV pre).setIfInBounds (x / 64) (.int .u64 ((bitsOf pre (x / 64) ||| 2 ^ (x % 64) : Nat) : Int)) = metV (pre ++ [x]) := by
  apply Array.ext
  · simp [metV]
  · intro j h1 h2
    have hj : j < 65 := by simpa [metV] using h2
    rw [Array.getElem_setIfInBounds]
    · by_cases hx : x / 64 = j
      · subst hx
        simp [metV, bitsOf_snoc]
      · simp [hx, metV, bitsOf_snoc]
    · rw [metV_size]; exact hj

theorem metV_ne {pre : List Nat} {x : Nat} (h : x ∉ pre) (hx : x / 64 < 65) : ∃ j, j < 65 ∧ (∀ k, k < j → bitsOf (pre ++ [x]) k = bitsOf pre k) ∧ bitsOf (pre ++ [x]) j ≠ bitsOf pre j := by
  refine ⟨x / 64, hx, ?_, ?_⟩
  · intro k hk
    rw [bitsOf_snoc, if_neg (by omega)]
  · rw [bitsOf_snoc, if_pos rfl]
    exact bitsOf_new h

theorem met_zero (w : World) : (zeroValue 130).run Try.prog w = .ok (.agg (metV [])) w := by kernel_rfl

theorem bits_with (pre : List Nat) (x : Nat) : bits .or .u64 (bitsOf pre (x / 64)) (IntKind.u64.wrap (2 ^ ((x : Int) % 64).toNat)) = ((bitsOf pre (x / 64) ||| 2 ^ (x % 64) : Nat) : Int) := by
  have e : ((x : Int) % 64).toNat = x % 64 := by omega
  have hp : 2 ^ (x % 64) < 2 ^ 64 := Nat.pow_lt_pow_right (by decide) (Nat.mod_lt _ (by decide))
  have e2 : IntKind.u64.wrap ((2 : Int) ^ (x % 64)) = ((2 ^ (x % 64) : Nat) : Int) := by
    rw [IntKind.wrap_u64]
    have : ((2 : Int) ^ (x % 64)) = ((2 ^ (x % 64) : Nat) : Int) := by simp
    rw [this]
    generalize 2 ^ (x % 64) = p at hp
    omega
  rw [e, e2]
  exact bits_or_u64_nat _ _ (bitsOf_lt pre _) hp

set_option maxRecDepth 100000 in
set_option maxHeartbeats 1000000 in
theorem met_with (pre : List Nat) (x : Nat) (hx : x ≤ 4096) (w : World) :
    Calls Try.prog 60 #[.agg (metV pre), .int .i64 x] w fun e w' => e = .returned (.agg (metV (pre ++ [x]))) ∧ Only [] w w' := by
  have hz := met_zero
  go_enter Try.func60, Try.ntmps60
  have hx0 : (0 : Int) ≤ (x : Int) / 64 := by omega
  have hx1 : (x : Int) / 64 < 65 := by omega
  have hxn : x / 64 < 65 := by omega
  have hm0 : (0 : Int) ≤ (x : Int) % 64 := by omega
  have hm1 : (x : Int) % 64 < 64 := by omega
  go_wp2_with fail
  refine wp_name (fun w1 => Blk w1 w.heap.size (metV pre) 130 ∧ Blk w1 (w.heap.size + 1) (metV []) 130 ∧ Only [] w w1) ⟨(Blk.new w _ _).alloc _, ?_, (Only.alloc _ _ _).trans (Only.alloc _ _ _)⟩ ?_
  · have := Blk.new (w.alloc (.cells (metV pre) 130)) (metV []) 130
    simpa using this
  rintro w1 ⟨hB, hD, hO⟩
  have hc : w1.cell? ⟨w.heap.size, x / 64, none⟩ = some (.int .u64 (bitsOf pre (x / 64))) := hB.cell _ (metV_get pre hxn)
  have hf := hB.free (x / 64)
  have hfin : Hid (∀ w2 : World, (w1.drewN 1).setCell ⟨w.heap.size, x / 64, none⟩ (.int .u64 (bits .or .u64 (bitsOf pre (x / 64)) (IntKind.u64.wrap (2 ^ ((x : Int) % 64).toNat)))) = w2 → Blk w2 w.heap.size (metV (pre ++ [x])) 130 ∧ Blk w2 (w.heap.size + 1) (metV []) 130 ∧ Only [] w w2) := by
    intro w2 hw
    subst hw
    rw [bits_with]
    refine ⟨?_, ?_, ?_⟩
    · have := Blk.set_same (w := w1.drewN 1) hB (x / 64) (.int .u64 ((bitsOf pre (x / 64) ||| 2 ^ (x % 64) : Nat) : Int))
      rw [metV_set] at this
      exact this
    · exact Blk.set_other (w := w1.drewN 1) hD (by simp) _
    · exact hO.past ((Only.drewN [w.heap.size] w1 1).trans (Only.setCell _ (by simp) _)) (by simp)
  go_cut [12] (fun s12 wc => Blk wc w.heap.size (metV (pre ++ [x])) 130 ∧ Blk wc (w.heap.size + 1) (metV []) 130 ∧ Only [] w wc)
  case first =>
    have hwr : IntKind.i64.wrap ((x : Int) / 64) = (x : Int) / 64 := IntWalk.i64_in _ ⟨by omega, by omega⟩
    have htn : ((x : Int) / 64).toNat = x / 64 := by omega
    have htm : (x : Int).tmod 64 = (x : Int) % 64 := Int.tmod_eq_emod_of_nonneg (by omega)
    have hc2 : ({ w1 with drawn := w1.drawn + 1 } : World).cell? ⟨w.heap.size, x / 64, none⟩ = some (.int .u64 (bitsOf pre (x / 64))) := hc
    have hc3 : ({ w1 with drawn := w1.drawn + 1 } : World).frozen? ⟨w.heap.size, x / 64, none⟩ = false := hf
    go_still_tail 9, (by kernel_rfl)
    generalize hwd : ({ w1 with drawn := w1.drawn + 1 } : World) = wd1 at *
    have HWD := Lib.hid hwd
    clear hwd hwr htn htm hx0 hx1 hm0 hm1 hc hf
    go_wp2_with fail
    go_meet
    case rel => exact hfin.out _ (by rw [← HWD.out]; rfl)
  case rest =>
    obtain ⟨hB2, hD2, hO2⟩ := hcut
    clear hfin hc hf hB hD hO
    go_wp2_with (first | (refine wpList_load_row rfl 130 _ rfl _ rfl 130 _ (0, 0) _ hB2 Try.underlying130 rfl (by rw [metV_size]; kernel_rfl) ?_) | (refine wpList_store_row rfl 130 _ _ rfl _ _ rfl rfl 130 _ hD2 (by rw [metV_size]; kernel_rfl) (by rw [metV_size, metV_size]) (metV_one _) ?_))
    refine bodyPost_ret (v := .agg (metV (pre ++ [x]))) (results_cell_row rfl _ _ (w.heap.size + 1) 130 _ (0, 0) _ rfl (Blk.setRow hD2) Try.underlying130 rfl (by rw [metV_size]; kernel_rfl)) rfl ⟨rfl, ?_⟩
    exact hO2.past (Only.setRow (S := [w.heap.size + 1]) _ (by simp) _) (by simp)

/-- One step of the comparison of two rows of words. -/
theorem run_part_word (P : Program) (e : TypeId) (he : P.underlying e = some (.int .u64)) (xs : Array Value) (k : Nat) (v : Value) (hx : xs[k]? = some v) (w : World) :
    (part e xs k).run P w = .ok v w := by
  simp [part, isAgg, run_underlying he, hx]

theorem run_equalIn_word (P : Program) (e : TypeId) (d : Nat) (he : P.underlying e = some (.int .u64)) (a b : Int) (w : World) :
    (Op.equalIn (d + 1) e (.int .u64 a) (.int .u64 b)).run P w = .ok (a == b) w := by
  simp [Op.equalIn, run_underlying he]

theorem run_words_loop (P : Program) (e : TypeId) (d : Nat) (he : P.underlying e = some (.int .u64)) (f g : Nat → Int) (xs ys : Array Value) (hx : ∀ k, k < 65 → xs[k]? = some (.int .u64 (f k))) (hy : ∀ k, k < 65 → ys[k]? = some (.int .u64 (g k))) (j : Nat) (hj : j < 65) (hd : f j ≠ g j) (hs : ∀ k, k < j → f k = g k) (w : World) :
    ∀ m a, a + m = 65 → a ≤ j →
    (forIn (m := Sem) (List.range' a m) (none, ()) fun i (_ : Option Bool × Unit) => do
      let u ← part e xs i
      let v ← part e ys i
      let r ← Op.equalIn (d + 1) e u v
      if r = false then pure (ForInStep.done (some false, ())) else pure (ForInStep.yield (none, ()))).run P w = .ok (some false, ()) w := by
  intro m
  induction m with
  | zero => intro a h1 h2; omega
  | succ m ih =>
    intro a h1 h2
    rw [List.range'_succ, List.forIn_cons]
    have ha : a < 65 := by omega
    simp only [Sem.run_bind, run_part_word P e he xs a _ (hx a ha), run_part_word P e he ys a _ (hy a ha), Result.andThen_ok, run_equalIn_word P e d he]
    by_cases hja : a = j
    · subst hja
      have hb : (f a == g a) = false := by simpa using hd
      simp [hb]
    · have hb : (f a == g a) = true := by simpa using hs a (by omega)
      simp only [hb, Bool.true_eq_false, if_false, Sem.run_pure, Result.andThen_ok]
      exact ih (a + 1) (by omega) (by omega)

theorem run_equalIn_words (P : Program) (d : Nat) (t e : TypeId) (ht : P.underlying t = some (.array 65 e)) (he : P.underlying e = some (.int .u64)) (hs1 : (P.info? e).map (·.size) = some 1) (f g : Nat → Int) (xs ys : Array Value) (hx : ∀ k, k < 65 → xs[k]? = some (.int .u64 (f k))) (hy : ∀ k, k < 65 → ys[k]? = some (.int .u64 (g k))) (j : Nat) (hj : j < 65) (hd : f j ≠ g j) (hs : ∀ k, k < j → f k = g k) (w : World) :
    (Op.equalIn (d + 2) t (.agg xs) (.agg ys)).run P w = .ok false w := by
  obtain ⟨i, hi, hz⟩ := Option.map_eq_some_iff.1 hs1
  have hl := run_words_loop P e d he f g xs ys hx hy j hj hd hs w 65 0 (by omega) (by omega)
  rw [Op.equalIn]
  simp only [Sem.run_bind, run_underlying ht, Result.andThen_ok, sizeOf, typeInfo]
  simp [hi, hz]
  simp only [hl, Result.andThen_ok]
  rfl

theorem run_neql_words (P : Program) (t e : TypeId) (ht : P.underlying t = some (.array 65 e)) (he : P.underlying e = some (.int .u64)) (hs1 : (P.info? e).map (·.size) = some 1) (f g : Nat → Int) (xs ys : Array Value) (hx : ∀ k, k < 65 → xs[k]? = some (.int .u64 (f k))) (hy : ∀ k, k < 65 → ys[k]? = some (.int .u64 (g k))) (j : Nat) (hj : j < 65) (hd : f j ≠ g j) (hs : ∀ k, k < j → f k = g k) (w : World) :
    (binOp .eql t (.agg xs) (.agg ys)).run P w = .ok (.bool false) w := by
  simp only [binOp]
  simp [Op.equal, Op.maxDepth, run_equalIn_words P 9998 t e ht he hs1 f g xs ys hx hy j hj hd hs w]

/-- Two sets of places, the one with one place more, are told apart. -/
theorem met_differs (pre : List Nat) (x : Nat) (h : x ∉ pre) (hx : x ≤ 4096) (w : World) : (binOp .eql 130 (.agg (metV (pre ++ [x]))) (.agg (metV pre))).run Try.prog w = .ok (.bool false) w := by
  obtain ⟨j, hj, hs, hd⟩ := metV_ne h (by omega)
  exact run_neql_words Try.prog 130 128 Try.underlying130 Try.underlying128 (by kernel_rfl) (fun k => bitsOf (pre ++ [x]) k) (fun k => bitsOf pre k) _ _ (fun k hk => metV_get _ hk) (fun k hk => metV_get _ hk) j hj (by intro e; exact hd (by omega)) (fun k hk => by have := hs k hk; omega) w

end Go.Proofs.Yteeibhjmjejplaa
