/- A pool, a clock and a chain as one state, and the chain's calls on it. Condition: the state stands in memory as Ch says. -/
import Derived.Test.YteeibhjmjejplaaChainF
namespace Go.Proofs.Yteeibhjmjejplaa
open Go.RowKit

theorem blockOf_mem {v : Value} {k : Nat} (h : v.ownBlock = some k) : k ∈ blockOf v := by
  unfold Value.ownBlock at h
  split at h
  · rename_i a
    cases h
    simp [blockOf]
  · cases h

/-- Pool, clock, chain: the versions' slots L, the newest first; the sets Z; so many calls were done. -/
structure Ch (w : World) (A : PA) (X : CA) (cb cq n : Nat) (S : Nat → Sl) (t : Int) (fs : List Nat) (now : Int) (ls : List Int) (Z : Nat → Ent) (L : List Nat) (base m : Nat) : Prop where
  pool : PoolAt w A n S t fs 0
  clk : ClkAt w cb cq now ls
  chain : ChainAt w X A cb n (hdOf S L) Z
  sep : Sep A X cb cq
  vers : Vers n S L
  len : L.length ≤ n
  mark : ∀ i, i ∈ L → ¬ (S i).mark = 0
  ent : ∀ i, i ∈ L → (Z i).h = wd i (S i).gen ∧ Reads w (Z i).v (Z i).l ∧ (Z i).l.length ≤ 100 ∧ ∀ k, k ∈ blockOf (Z i).v → base ≤ k ∧ k < w.heap.size
  mine : ∀ i, i ∈ L → w.ownsRow base 3 1 (Z i).v (Z i).l.length ((Z i).l.map (Value.int .i64))
  each : ∀ i j, i ∈ L → j ∈ L → i ≠ j → ∀ k, k ∈ blockOf (Z i).v → k ∉ blockOf (Z j).v
  low : (∀ k, k ∈ A.all → k < base) ∧ (∀ k, k ∈ X.all → k < base) ∧ cb < base ∧ cq < base
  high : base ≤ w.heap.size
  free : ∀ i, i ∈ fs → i ∉ L ∧ (S i).gen % 2 = 0
  once : fs.Nodup
  rng : ∀ i, i ∈ fs → 1 ≤ i ∧ i ≤ n
  gens : ∀ i, 0 ≤ (S i).gen ∧ (S i).gen ≤ 2 * m
  tag : 0 ≤ t ∧ t ≤ 2 * m
  steps : m ≤ 1000
  one : 1 ≤ now ∧ now ≤ m + 1

theorem Ch.many {w : World} {A : PA} {X : CA} {cb cq n : Nat} {S : Nat → Sl} {t : Int} {fs : List Nat} {now : Int} {ls : List Int} {Z : Nat → Ent} {L : List Nat} {base m : Nat} (C : Ch w A X cb cq n S t fs now ls Z L base m) : 1 ≤ n ∧ n ≤ 4096 := C.pool.many

theorem Ch.later {w : World} {A : PA} {X : CA} {cb cq n : Nat} {S : Nat → Sl} {t : Int} {fs : List Nat} {now : Int} {ls : List Int} {Z : Nat → Ent} {L : List Nat} {base m : Nat} (C : Ch w A X cb cq n S t fs now ls Z L base m) {m' : Nat} (h : m ≤ m') (h2 : m' ≤ 1000) : Ch w A X cb cq n S t fs now ls Z L base m' :=
  { C with gens := fun i => by have := C.gens i; omega, tag := by have := C.tag; omega, steps := h2, one := by have := C.one; omega }

/-- A step that turns blocks of others alone. -/
theorem Ch.only {T : List Nat} {w w' : World} {A : PA} {X : CA} {cb cq n : Nat} {S : Nat → Sl} {t : Int} {fs : List Nat} {now : Int} {ls : List Int} {Z : Nat → Ent} {L : List Nat} {base m : Nat} (C : Ch w A X cb cq n S t fs now ls Z L base m) (o : Only T w w') (hT : ∀ k, k ∈ T → base ≤ k ∧ ∀ i, i ∈ L → k ∉ blockOf (Z i).v) : Ch w' A X cb cq n S t fs now ls Z L base m := by
  have hl := C.low
  refine { C with pool := C.pool.only o fun k hk hm => ?_, clk := C.clk.only o (fun hm => ?_) (fun hm => ?_), chain := C.chain.only o fun k hk hm => ?_, ent := fun i hi => ?_, mine := fun i hi => own_only (C.mine i hi) o fun k hk hm => (hT k hm).2 i hi (blockOf_mem hk), high := Nat.le_trans C.high o.size }
  · have := (hT k hm).1; have := hl.1 k hk; omega
  · have := (hT cb hm).1; have := hl.2.2.1; omega
  · have := (hT cq hm).1; have := hl.2.2.2; omega
  · have := (hT k hm).1; have := hl.2.1 k hk; omega
  · obtain ⟨h1, h2, h3, h4⟩ := C.ent i hi
    exact ⟨h1, h2.only o (fun k hk hm => (hT k hm).2 i hi hk), h3, fun k hk => ⟨(h4 k hk).1, Nat.lt_of_lt_of_le (h4 k hk).2 o.size⟩⟩

theorem Ch.plain {w w' : World} {A : PA} {X : CA} {cb cq n : Nat} {S : Nat → Sl} {t : Int} {fs : List Nat} {now : Int} {ls : List Int} {Z : Nat → Ent} {L : List Nat} {base m : Nat} (C : Ch w A X cb cq n S t fs now ls Z L base m) (o : Only [] w w') : Ch w' A X cb cq n S t fs now ls Z L base m := C.only o (by simp)

theorem Ch.range {w : World} {A : PA} {X : CA} {cb cq n : Nat} {S : Nat → Sl} {t : Int} {fs : List Nat} {now : Int} {ls : List Int} {Z : Nat → Ent} {L : List Nat} {base m : Nat} (C : Ch w A X cb cq n S t fs now ls Z L base m) {i : Nat} (hi : i ∈ fs) : 1 ≤ i ∧ i ≤ n := C.rng i hi

theorem ch_top {w : World} {A : PA} {X : CA} {cb cq n : Nat} {S : Nat → Sl} {t : Int} {fs : List Nat} {now : Int} {ls : List Int} {Z : Nat → Ent} {i : Nat} {r : List Nat} {base m : Nat} (C : Ch w A X cb cq n S t fs now ls Z (i :: r) base m) :
    Calls Try.prog 8 #[.pointer (some ⟨X.x, 0, none⟩), .pointer none] w fun e w' => e = .returned (.tuple #[.int .i64 (wd i (S i).gen), .int .i64 (S i).mark, .int .i64 0]) ∧ w = w' := by
  have hi : i ∈ i :: r := by simp
  exact chain_top X A cb n i Z S t fs 0 _ w C.chain C.pool (C.vers.range i hi).2 (C.vers.meets C.many.2 hi) (C.mark i hi) (by have := C.vers.pos hi; show ¬ wd i (S i).gen = 0; omega)

theorem ch_at {w : World} {A : PA} {X : CA} {cb cq n : Nat} {S : Nat → Sl} {t : Int} {fs : List Nat} {now : Int} {ls : List Int} {Z : Nat → Ent} {L : List Nat} {base m : Nat} (C : Ch w A X cb cq n S t fs now ls Z L base m) (hL : L ≠ []) (stamp : Int) :
    Calls Try.prog 9 #[.pointer (some ⟨X.x, 0, none⟩), .pointer none, .int .i64 stamp] w fun e w' => e = .returned (.tuple #[.int .i64 (atAns S stamp L).1, .int .i64 (atAns S stamp L).2]) ∧ w = w' :=
  chain_at X A cb n Z S t fs 0 stamp L w C.chain C.pool C.vers hL C.mark

theorem ch_versions {w : World} {A : PA} {X : CA} {cb cq n : Nat} {S : Nat → Sl} {t : Int} {fs : List Nat} {now : Int} {ls : List Int} {Z : Nat → Ent} {L : List Nat} {base m : Nat} (C : Ch w A X cb cq n S t fs now ls Z L base m) :
    Calls Try.prog 16 #[.pointer (some ⟨X.x, 0, none⟩)] w fun e w' => ∃ v, e = .returned v ∧ w'.ownsRow w.heap.size 3 1 v L.length ((hands S L).map (Value.int .i64)) ∧ Only [] w w' :=
  chain_versions X A cb n Z S t fs 0 L w C.chain C.pool C.vers C.len

theorem ch_set {w : World} {A : PA} {X : CA} {cb cq n : Nat} {S : Nat → Sl} {t : Int} {fs : List Nat} {now : Int} {ls : List Int} {Z : Nat → Ent} {L : List Nat} {base m : Nat} (C : Ch w A X cb cq n S t fs now ls Z L base m) {i : Nat} (hi : i ∈ L) :
    Calls Try.prog 19 #[.pointer (some ⟨X.x, 0, none⟩), .int .i64 (wd i (S i).gen)] w fun e w' => ∃ v, e = .returned v ∧ w'.ownsRow w.heap.size 3 1 v (Z i).l.length ((Z i).l.map (Value.int .i64)) ∧ Only [] w w' := by
  obtain ⟨h1, h2⟩ := C.vers.range i hi
  obtain ⟨ho, h0, h3⟩ := C.vers.odd i hi
  obtain ⟨e1, e2, e3, _⟩ := C.ent i hi
  obtain ⟨m', rfl⟩ : ∃ m', i = m' + 1 := ⟨i - 1, by omega⟩
  rw [show ((m' + 1 : Nat) : Int) = (m' : Int) + 1 by omega] at e1 ⊢
  exact chain_set X A cb n m' _ Z S t fs 0 w C.chain C.pool (by omega) ho h0 (by omega) e1 e2 (by omega)

theorem ch_read {w : World} {A : PA} {X : CA} {cb cq n : Nat} {S : Nat → Sl} {t : Int} {fs : List Nat} {now : Int} {ls : List Int} {Z : Nat → Ent} {L : List Nat} {base m : Nat} (C : Ch w A X cb cq n S t fs now ls Z L base m) {i : Nat} (hi : i ∈ L) :
    Calls Try.prog 18 #[.pointer (some ⟨A.p, 0, none⟩), .pointer none, .int .i64 (wd i (S i).gen)] w fun e w' => e = .returned (.tuple #[.agg #[.int .i64 (S i).a, .int .i64 (S i).b, .int .i64 (S i).c, .int .i64 (S i).d], .int .i64 0]) ∧ Only [] w w' :=
  pool_read A n i S t fs 0 _ w C.pool (C.vers.range i hi).2 (C.vers.meets C.many.2 hi)

theorem ch_push_full {w : World} {A : PA} {X : CA} {cb cq n : Nat} {S : Nat → Sl} {t : Int} {now : Int} {ls : List Int} {Z : Nat → Ent} {L : List Nat} {base m : Nat} (C : Ch w A X cb cq n S t [] now ls Z L base m) (a b c d old : Int) (v : Value) :
    Calls Try.prog 11 #[.pointer (some ⟨X.x, 0, none⟩), .pointer none, .int .i64 old, .agg #[.int .i64 a, .int .i64 b, .int .i64 c, .int .i64 d], v] w fun e w' => e = .returned (.tuple #[.int .i64 0, .bool false, .int .i64 102]) ∧ Only [] w w' :=
  chain_push_full X A cb n _ Z S t 0 a b c d old v w C.chain C.pool

theorem blockOf_own {w : World} {base : Nat} {e : TypeId} {sz n : Nat} {v : Value} {xs : List Value} (h : w.ownsRow base e sz v n xs) : ∀ k, k ∈ blockOf v → v.ownBlock = some k := by
  intro k hk
  rcases h.2 with ⟨hv, _⟩ | ⟨g, cap, cur, hv, _⟩
  · subst hv; simp [blockOf] at hk
  · subst hv; simp [blockOf] at hk; simp [Value.ownBlock, hk]

theorem Links.fresh {S : Nat → Sl} {i : Nat} {s : Sl} {L : List Nat} (hi : i ∉ L) (h : Links S L) : Links (upS S i s) L :=
  h.congr fun j hj => by rw [upS_other S s (show j ≠ i from fun e => hi (e ▸ hj))]; exact ⟨rfl, rfl⟩

theorem hdOf_fresh {S : Nat → Sl} {i : Nat} {s : Sl} {L : List Nat} (hi : i ∉ L) : hdOf (upS S i s) L = hdOf S L :=
  (hdOf_congr fun j hj => by rw [upS_other S s (show j ≠ i from fun e => hi (e ▸ hj))]).symm

theorem ch_push_ok {w : World} {A : PA} {X : CA} {cb cq n : Nat} {S : Nat → Sl} {t : Int} {i : Nat} {r : List Nat} {now : Int} {ls : List Int} {Z : Nat → Ent} {L : List Nat} {base m : Nat} (C : Ch w A X cb cq n S t (i :: r) now ls Z L base m) (a b c d : Int) (v : Value) (xs : List Int) (R : Reads w v xs) (hR : ∀ k, k ∈ blockOf v → k ∉ A.all ∧ k ∉ X.all) (hxs : xs.length ≤ 100) (hm : m < 1000) (hLn : L.length < n) :
    Calls Try.prog 11 #[.pointer (some ⟨X.x, 0, none⟩), .pointer none, .int .i64 (hdOf S L), .agg #[.int .i64 a, .int .i64 b, .int .i64 c, .int .i64 d], v] w fun e w' =>
      e = .returned (.tuple #[.int .i64 (wd i ((S i).gen + 1)), .bool true, .int .i64 0]) ∧ ∃ v', Ch w' A X cb cq n (upS S i ⟨(S i).gen + 1, now, hdOf S L, a, b, c, d⟩) (t + 1) r now ls (upE Z i ⟨wd i ((S i).gen + 1), v', xs⟩) (i :: L) base (m + 1) ∧ Only (A.all ++ X.all) w w' ∧ (∀ k, k ∈ blockOf v' → w.heap.size ≤ k) := by
  have hr := C.rng i (by simp)
  have hf := C.free i (by simp)
  have hnd := List.nodup_cons.1 C.once
  have hg := C.gens i
  have ht := C.tag
  refine (chain_push X A cb cq n i _ Z S t r 0 a b c d (hdOf S L) now ls v xs w C.chain C.pool C.clk C.sep R hR (by omega) hr.1 hr.2 hnd.1 hf.2 ⟨hg.1, by omega⟩ (by omega)).mono ?_
  intro e w' h
  obtain ⟨he, hP, v', hC, hown, hO⟩ := h.1 rfl
  refine ⟨he, v', ?_, hO, fun k hk => (hown.lt k (blockOf_own hown k hk)).1⟩
  have hlow := C.low
  have hTb : ∀ k, k ∈ A.all ++ X.all → k < base := fun k hk => by
    rcases List.mem_append.1 hk with h | h
    · exact hlow.1 k h
    · exact hlow.2.1 k h
  have hne : ∀ j, j ∈ L → j ≠ i := fun j hj e => hf.1 (e ▸ hj)
  exact {
    pool := hP
    clk := C.clk.only hO (fun hm => by rcases List.mem_append.1 hm with h | h; exact (C.sep.pool _ h).2.1 rfl; exact (C.sep.chain _ h).1 rfl) (fun hm => by rcases List.mem_append.1 hm with h | h; exact (C.sep.pool _ h).2.2 rfl; exact (C.sep.chain _ h).2 rfl)
    chain := by
      have : hdOf (upS S i ⟨(S i).gen + 1, now, hdOf S L, a, b, c, d⟩) (i :: L) = wd i ((S i).gen + 1) := by simp [hdOf, upS_same]
      rw [this]; exact hC
    sep := C.sep
    vers := by
      refine ⟨List.nodup_cons.2 ⟨hf.1, C.vers.once⟩, fun j hj => ?_, fun j hj => ?_, ?_, ?_⟩
      · rcases List.mem_cons.1 hj with rfl | hj
        · exact hr
        · exact C.vers.range j hj
      · rcases List.mem_cons.1 hj with rfl | hj
        · rw [upS_same]; have := C.steps; refine ⟨?_, ?_, ?_⟩ <;> simp only <;> omega
        · rw [upS_other S _ (hne j hj)]; exact C.vers.odd j hj
      · rw [upS_same]; exact (hdOf_fresh hf.1).symm
      · exact C.vers.links.fresh hf.1
    len := by simp; omega
    mark := fun j hj => by
      rcases List.mem_cons.1 hj with rfl | hj
      · rw [upS_same]; have := C.one; show ¬ now = 0; omega
      · rw [upS_other S _ (hne j hj)]; exact C.mark j hj
    ent := fun j hj => by
      rcases List.mem_cons.1 hj with rfl | hj
      · rw [upE_same, upS_same]
        refine ⟨rfl, Reads.of_own hown, hxs, fun k hk => ?_⟩
        have := hown.lt k (blockOf_own hown k hk)
        have := C.high
        omega
      · rw [upE_other Z _ (hne j hj), upS_other S _ (hne j hj)]
        obtain ⟨h1, h2, h3, h4⟩ := C.ent j hj
        exact ⟨h1, h2.only hO (fun k hk hm => by have := hTb k hm; have := (h4 k hk).1; omega), h3, fun k hk => ⟨(h4 k hk).1, Nat.lt_of_lt_of_le (h4 k hk).2 hO.size⟩⟩
    mine := fun j hj => by
      rcases List.mem_cons.1 hj with rfl | hj1
      · rw [upE_same]; exact hown.mono C.high
      · rw [upE_other Z _ (hne j hj1)]; exact own_only (C.mine j hj1) hO fun k hk hm => by have := hTb k hm; have := ((C.mine j hj1).lt k hk).1; omega
    each := fun j l hj hl hjl k hk hk2 => by
      rcases List.mem_cons.1 hj with rfl | hj1
      · rcases List.mem_cons.1 hl with rfl | hl1
        · exact hjl rfl
        · rw [upE_same] at hk
          rw [upE_other Z _ (hne l hl1)] at hk2
          have := hown.lt k (blockOf_own hown k hk)
          have := ((C.ent l hl1).2.2.2 k hk2).2
          omega
      · rw [upE_other Z _ (hne j hj1)] at hk
        rcases List.mem_cons.1 hl with rfl | hl1
        · rw [upE_same] at hk2
          have := hown.lt k (blockOf_own hown k hk2)
          have := ((C.ent j hj1).2.2.2 k hk).2
          omega
        · rw [upE_other Z _ (hne l hl1)] at hk2
          exact C.each j l hj1 hl1 hjl k hk hk2
    low := C.low
    high := Nat.le_trans C.high hO.size
    free := fun j hj => by
      have hji : j ≠ i := fun e => hnd.1 (e ▸ hj)
      rw [upS_other S _ hji]
      have := C.free j (by simp [hj])
      exact ⟨fun hm => by rcases List.mem_cons.1 hm with h | h; exact hji h; exact this.1 h, this.2⟩
    once := hnd.2
    rng := fun j hj => C.rng j (by simp [hj])
    gens := fun j => by
      by_cases hji : j = i
      · subst hji; rw [upS_same]; simp only; omega
      · rw [upS_other S _ hji]; have := C.gens j; omega
    tag := by omega
    steps := by omega
    one := by have := C.one; omega }

theorem ch_push_no {w : World} {A : PA} {X : CA} {cb cq n : Nat} {S : Nat → Sl} {t : Int} {i : Nat} {r : List Nat} {now : Int} {ls : List Int} {Z : Nat → Ent} {L : List Nat} {base m : Nat} (C : Ch w A X cb cq n S t (i :: r) now ls Z L base m) (a b c d old : Int) (hold : ¬ hdOf S L = old) (v : Value) (xs : List Int) (R : Reads w v xs) (hR : ∀ k, k ∈ blockOf v → k ∉ A.all ∧ k ∉ X.all) (hxs : xs.length ≤ 100) (hm : m < 1000) :
    Calls Try.prog 11 #[.pointer (some ⟨X.x, 0, none⟩), .pointer none, .int .i64 old, .agg #[.int .i64 a, .int .i64 b, .int .i64 c, .int .i64 d], v] w fun e w' =>
      e = .returned (.tuple #[.int .i64 0, .bool false, .int .i64 0]) ∧ ∃ v', Ch w' A X cb cq n (upS S i (poisoned ((S i).gen + 2))) (t + 2) (i :: r) now ls (upE Z i ⟨wd i ((S i).gen + 1), v', xs⟩) L base (m + 1) ∧ Only (A.all ++ X.all) w w' := by
  have hr := C.rng i (by simp)
  have hf := C.free i (by simp)
  have hnd := List.nodup_cons.1 C.once
  have hg := C.gens i
  have ht := C.tag
  refine (chain_push X A cb cq n i _ Z S t r 0 a b c d old now ls v xs w C.chain C.pool C.clk C.sep R hR (by omega) hr.1 hr.2 hnd.1 hf.2 ⟨hg.1, by omega⟩ (by omega)).mono ?_
  intro e w' h
  obtain ⟨he, hP, v', hC, hO⟩ := h.2 hold
  refine ⟨he, v', ?_, hO⟩
  have hlow := C.low
  have hTb : ∀ k, k ∈ A.all ++ X.all → k < base := fun k hk => by
    rcases List.mem_append.1 hk with h | h
    · exact hlow.1 k h
    · exact hlow.2.1 k h
  have hne : ∀ j, j ∈ L → j ≠ i := fun j hj e => hf.1 (e ▸ hj)
  exact {
    pool := hP
    clk := C.clk.only hO (fun hm => by rcases List.mem_append.1 hm with h | h; exact (C.sep.pool _ h).2.1 rfl; exact (C.sep.chain _ h).1 rfl) (fun hm => by rcases List.mem_append.1 hm with h | h; exact (C.sep.pool _ h).2.2 rfl; exact (C.sep.chain _ h).2 rfl)
    chain := by rw [hdOf_fresh hf.1]; exact hC
    sep := C.sep
    vers := ⟨C.vers.once, C.vers.range, fun j hj => by rw [upS_other S _ (hne j hj)]; exact C.vers.odd j hj, C.vers.links.fresh hf.1⟩
    len := C.len
    mark := fun j hj => by rw [upS_other S _ (hne j hj)]; exact C.mark j hj
    ent := fun j hj => by
      rw [upE_other Z _ (hne j hj), upS_other S _ (hne j hj)]
      obtain ⟨h1, h2, h3, h4⟩ := C.ent j hj
      exact ⟨h1, h2.only hO (fun k hk hm => by have := hTb k hm; have := (h4 k hk).1; omega), h3, fun k hk => ⟨(h4 k hk).1, Nat.lt_of_lt_of_le (h4 k hk).2 hO.size⟩⟩
    mine := fun j hj => by rw [upE_other Z _ (hne j hj)]; exact own_only (C.mine j hj) hO fun k hk hm => by have := hTb k hm; have := ((C.mine j hj).lt k hk).1; omega
    each := fun j l hj hl hjl k hk hk2 => by
      rw [upE_other Z _ (hne j hj)] at hk
      rw [upE_other Z _ (hne l hl)] at hk2
      exact C.each j l hj hl hjl k hk hk2
    low := C.low
    high := Nat.le_trans C.high hO.size
    free := fun j hj => by
      have := C.free j hj
      refine ⟨this.1, ?_⟩
      by_cases hji : j = i
      · subst hji; rw [upS_same]; simp only [poisoned]; omega
      · rw [upS_other S _ hji]; exact this.2
    once := C.once
    rng := C.rng
    gens := fun j => by
      by_cases hji : j = i
      · subst hji; rw [upS_same]; simp only [poisoned]; omega
      · rw [upS_other S _ hji]; have := C.gens j; omega
    tag := by omega
    steps := by omega
    one := by have := C.one; omega }

end Go.Proofs.Yteeibhjmjejplaa
