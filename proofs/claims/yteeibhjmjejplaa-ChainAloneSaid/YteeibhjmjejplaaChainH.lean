/- A chain's First, Cut, a clock's Take and Release on the state of pool, clock and chain. Condition: the state stands in memory as Ch says. -/
import Derived.Test.YteeibhjmjejplaaChainG
namespace Go.Proofs.Yteeibhjmjejplaa
open Go.RowKit

theorem Links.cut {S : Nat → Sl} {i : Nat} {s : Sl} (hl : s.link = 0) (hg : s.gen = (S i).gen) : ∀ {L : List Nat} (k : Nat), L.Nodup → L[k]? = some i → Links S L → Links (upS S i s) (L.take (k + 1)) ∧ hdOf (upS S i s) (L.take (k + 1)) = hdOf S L
  | [], k, _, hk, _ => by simp at hk
  | a :: r, 0, _, hk, _ => by
    simp at hk
    subst hk
    refine ⟨⟨?_, trivial⟩, ?_⟩
    · rw [upS_same, hl]; rfl
    · simp [hdOf, upS_same, hg]
  | a :: r, k + 1, hn, hk, h => by
    have hk' : r[k]? = some i := by simpa using hk
    have hir : i ∈ r := List.mem_of_getElem? hk'
    have hai : a ≠ i := fun e => (List.nodup_cons.1 hn).1 (e ▸ hir)
    obtain ⟨h1, h2⟩ := Links.cut hl hg k (List.nodup_cons.1 hn).2 hk' h.2
    rw [List.take_succ_cons]
    refine ⟨⟨?_, h1⟩, ?_⟩
    · rw [upS_other S s hai, h2]; exact h.1
    · simp [hdOf, upS_other S s hai]

theorem Vers.link {n : Nat} {S : Nat → Sl} {L : List Nat} (V : Vers n S L) {k i j : Nat} (hk : L[k]? = some i) (hj : L[k + 1]? = some j) : (S i).link = wd j (S j).gen := by
  rw [V.links.next hk, hdOf_drop hj]

theorem ch_cut {w : World} {A : PA} {X : CA} {cb cq n : Nat} {S : Nat → Sl} {t : Int} {fs : List Nat} {now : Int} {ls : List Int} {Z : Nat → Ent} {L : List Nat} {base m : Nat} (C : Ch w A X cb cq n S t fs now ls Z L base m) {k i j : Nat} (hk : L[k]? = some i) (hj : L[k + 1]? = some j) :
    Calls Try.prog 13 #[.pointer (some ⟨X.x, 0, none⟩), .pointer none, .int .i64 (wd i (S i).gen)] w fun e w' => e = .returned (.tuple #[.int .i64 (wd j (S j).gen), (Z i).v, .int .i64 0]) ∧
      Ch w' A X cb cq n (upS S i { S i with link := 0 }) t fs now ls (upE Z i ⟨wd i (S i).gen, .slice none 0 0, []⟩) (L.take (k + 1)) base m ∧ Only (A.all ++ X.all) w w' := by
  have hi : i ∈ L := List.mem_of_getElem? hk
  obtain ⟨h1, h2⟩ := C.vers.range i hi
  obtain ⟨ho, h0, h3⟩ := C.vers.odd i hi
  obtain ⟨e1, e2, e3, e4⟩ := C.ent i hi
  have hm := C.many
  obtain ⟨ad, cap, hv, _⟩ := id e2
  have hlk := C.vers.link hk hj
  have hpos := C.vers.pos (List.mem_of_getElem? hj)
  refine (chain_cut X A cb cq n i _ Z S t fs 0 _ ad _ cap w C.chain C.pool C.sep h1 h2 (idxOf_wd (by omega) (by omega) h0 (by omega)) (C.vers.meets hm.2 hi) (by rw [hlk]; omega) e1 hv).mono ?_
  rintro e w' ⟨he, hP, hC, hO⟩
  have hlow := C.low
  have hTb : ∀ k, k ∈ A.all ++ X.all → k < base := fun k hk => by
    rcases List.mem_append.1 hk with h | h
    · exact hlow.1 k h
    · exact hlow.2.1 k h
  have hsub : ∀ x, x ∈ L.take (k + 1) → x ∈ L := fun x hx => List.mem_of_mem_take hx
  have hLc := Links.cut (S := S) (i := i) (s := { S i with link := 0 }) rfl rfl k C.vers.once hk C.vers.links
  have hgen : ∀ x, (upS S i { S i with link := 0 } x).gen = (S x).gen := fun x => by
    by_cases hx : x = i
    · subst hx; rw [upS_same]
    · rw [upS_other S _ hx]
  have hmk : ∀ x, (upS S i { S i with link := 0 } x).mark = (S x).mark := fun x => by
    by_cases hx : x = i
    · subst hx; rw [upS_same]
    · rw [upS_other S _ hx]
  refine ⟨by rw [he, hlk, hv], ?_, hO⟩
  exact {
    pool := hP
    clk := C.clk.only hO (fun hm => by rcases List.mem_append.1 hm with h | h; exact (C.sep.pool _ h).2.1 rfl; exact (C.sep.chain _ h).1 rfl) (fun hm => by rcases List.mem_append.1 hm with h | h; exact (C.sep.pool _ h).2.2 rfl; exact (C.sep.chain _ h).2 rfl)
    chain := by rw [hLc.2]; exact hC
    sep := C.sep
    vers := ⟨C.vers.once.sublist (List.take_sublist _ _), fun x hx => C.vers.range x (hsub x hx), fun x hx => by rw [hgen]; exact C.vers.odd x (hsub x hx), hLc.1⟩
    len := by have := C.len; rw [List.length_take]; omega
    mark := fun x hx => by rw [hmk]; exact C.mark x (hsub x hx)
    ent := fun x hx => by
      by_cases hxi : x = i
      · subst hxi
        rw [upE_same, hgen]
        exact ⟨rfl, Reads.nil _, by simp, fun k hk => by simp [blockOf] at hk⟩
      · rw [upE_other Z _ hxi, hgen]
        obtain ⟨h1, h2, h3, h4⟩ := C.ent x (hsub x hx)
        exact ⟨h1, h2.only hO (fun k hk hm => by have := hTb k hm; have := (h4 k hk).1; omega), h3, fun k hk => ⟨(h4 k hk).1, Nat.lt_of_lt_of_le (h4 k hk).2 hO.size⟩⟩
    mine := fun x hx => by
      by_cases hxi : x = i
      · subst hxi; rw [upE_same]; exact World.ownsRow_nil _ _ _ _
      · rw [upE_other Z _ hxi]; exact own_only (C.mine x (hsub x hx)) hO fun k hk hm => by have := hTb k hm; have := ((C.mine x (hsub x hx)).lt k hk).1; omega
    each := fun x y hx hy hxy q hq hq2 => by
      by_cases hxi : x = i
      · subst hxi; rw [upE_same] at hq; simp [blockOf] at hq
      · by_cases hyi : y = i
        · subst hyi; rw [upE_same] at hq2; simp [blockOf] at hq2
        · rw [upE_other Z _ hxi] at hq
          rw [upE_other Z _ hyi] at hq2
          exact C.each x y (hsub x hx) (hsub y hy) hxy q hq hq2
    low := C.low
    high := Nat.le_trans C.high hO.size
    free := fun x hx => by rw [hgen]; have := C.free x hx; exact ⟨fun hm => this.1 (hsub x hm), this.2⟩
    once := C.once
    rng := C.rng
    gens := fun x => by rw [hgen]; exact C.gens x
    tag := C.tag
    steps := C.steps
    one := C.one }

theorem upS_self (S : Nat → Sl) (i : Nat) : upS S i (S i) = S := by
  funext j
  by_cases h : j = i
  · subst h; rw [upS_same]
  · rw [upS_other S _ h]

theorem ch_cut_last {w : World} {A : PA} {X : CA} {cb cq n : Nat} {S : Nat → Sl} {t : Int} {fs : List Nat} {now : Int} {ls : List Int} {Z : Nat → Ent} {L : List Nat} {base m : Nat} (C : Ch w A X cb cq n S t fs now ls Z L base m) {k i : Nat} (hk : L[k]? = some i) (hl : L.length = k + 1) :
    Calls Try.prog 13 #[.pointer (some ⟨X.x, 0, none⟩), .pointer none, .int .i64 (wd i (S i).gen)] w fun e w' => e = .returned (.tuple #[.int .i64 0, .slice none 0 0, .int .i64 0]) ∧
      Ch w' A X cb cq n S t fs now ls Z L base m ∧ Only (A.all ++ X.all) w w' := by
  have hi : i ∈ L := List.mem_of_getElem? hk
  obtain ⟨h1, h2⟩ := C.vers.range i hi
  have hm := C.many
  have hlk : (S i).link = 0 := by rw [C.vers.links.next hk, ← hl, hdOf_end]
  refine (chain_cut_last X A cb n i _ Z S t fs 0 _ w C.chain C.pool h2 (C.vers.meets hm.2 hi) hlk).mono ?_
  rintro e w' ⟨he, hP, hO⟩
  have hS : upS S i { S i with link := 0 } = S := by
    have : ({ S i with link := 0 } : Sl) = S i := by rw [← hlk]
    rw [this]; exact upS_self S i
  rw [hS] at hP
  have hlow := C.low
  refine ⟨he, ?_, hO.mono (by intro k hk; simp [hk])⟩
  exact { C with
    pool := hP
    clk := C.clk.only hO (fun hm => (C.sep.pool _ hm).2.1 rfl) (fun hm => (C.sep.pool _ hm).2.2 rfl)
    chain := C.chain.only hO (fun k hk hm => (C.sep.pool k hm).1 hk)
    ent := fun x hx => by
      obtain ⟨h1, h2, h3, h4⟩ := C.ent x hx
      exact ⟨h1, h2.only hO (fun k hk hm => by have := hlow.1 k hm; have := (h4 k hk).1; omega), h3, fun k hk => ⟨(h4 k hk).1, Nat.lt_of_lt_of_le (h4 k hk).2 hO.size⟩⟩
    mine := fun x hx => own_only (C.mine x hx) hO fun k hk hm => by have := hlow.1 k hm; have := ((C.mine x hx).lt k hk).1; omega
    high := Nat.le_trans C.high hO.size }

theorem Ch.clocked {w w' : World} {A : PA} {X : CA} {cb cq n : Nat} {S : Nat → Sl} {t : Int} {fs : List Nat} {now now' : Int} {ls ls' : List Int} {Z : Nat → Ent} {L : List Nat} {base m m' : Nat} (C : Ch w A X cb cq n S t fs now ls Z L base m) (K : ClkAt w' cb cq now' ls') (hO : Only [cb, cq] w w') (h1 : 1 ≤ now' ∧ now' ≤ m' + 1) (hm : m ≤ m') (hm2 : m' ≤ 1000) : Ch w' A X cb cq n S t fs now' ls' Z L base m' := by
  have hlow := C.low
  exact { C.later hm hm2 with
    pool := C.pool.only hO (fun k hk hm => by simp at hm; have := C.sep.pool k hk; omega)
    clk := K
    chain := C.chain.only hO (fun k hk hm => by simp at hm; have := C.sep.chain k hk; omega)
    ent := fun x hx => by
      obtain ⟨h1, h2, h3, h4⟩ := C.ent x hx
      exact ⟨h1, h2.only hO (fun k hk hm => by simp at hm; have := (h4 k hk).1; omega), h3, fun k hk => ⟨(h4 k hk).1, Nat.lt_of_lt_of_le (h4 k hk).2 hO.size⟩⟩
    mine := fun x hx => own_only (C.mine x hx) hO fun k hk hm => by simp at hm; have := ((C.mine x hx).lt k hk).1; omega
    high := Nat.le_trans C.high hO.size
    one := h1 }

theorem ch_take {w : World} {A : PA} {X : CA} {cb cq n : Nat} {S : Nat → Sl} {t : Int} {fs : List Nat} {now : Int} {Z : Nat → Ent} {L : List Nat} {base m : Nat} (C : Ch w A X cb cq n S t fs now [0] Z L base m) (hm : m < 1000) :
    Calls Try.prog 14 #[.pointer (some ⟨cb, 0, none⟩), .pointer none] w fun e w' => e = .returned (.tuple #[.agg #[.int .i64 0, .int .i64 now], .int .i64 0]) ∧ Ch w' A X cb cq n S t fs (now + 1) [now + 1] Z L base (m + 1) ∧ Only [cb, cq] w w' := by
  have h1 := C.one
  refine (clock_take cb cq now [0] 0 w C.clk ⟨by omega, by omega⟩ (by simp) (by simp) rfl (fun j hj => absurd hj (Nat.not_lt_zero _))).mono ?_
  rintro e w' ⟨he, hK, hO⟩
  exact ⟨he, C.clocked hK hO (by omega) (by omega) (by omega), hO⟩

theorem ch_release {w : World} {A : PA} {X : CA} {cb cq n : Nat} {S : Nat → Sl} {t : Int} {fs : List Nat} {now x : Int} {Z : Nat → Ent} {L : List Nat} {base m : Nat} (C : Ch w A X cb cq n S t fs now [x] Z L base m) (hx : ¬ x = 0) :
    Calls Try.prog 15 #[.pointer (some ⟨cb, 0, none⟩), .pointer none, .int .i64 0] w fun e w' => e = .returned (.int .i64 0) ∧ Ch w' A X cb cq n S t fs now [0] Z L base m ∧ Only [cb, cq] w w' := by
  refine (clock_release cb cq now [x] 0 w C.clk (by simp) (by simpa using hx)).mono ?_
  rintro e w' ⟨he, hK, hO⟩
  have hO2 : Only [cb, cq] w w' := hO.mono (by simp)
  exact ⟨he, C.clocked hK hO2 C.one (Nat.le_refl _) C.steps, hO2⟩

theorem ch_first {w : World} {A : PA} {X : CA} {cb cq n : Nat} {ls : List Int} {base : Nat} (h1 : 1 ≤ n) (P : PoolAt w A n (fun _ => slot0) 0 (List.range' 1 n) 0) (K : ClkAt w cb cq 1 ls) (C : ChainAt w X A cb n 0 (fun _ => ent0)) (SP : Sep A X cb cq)
    (low : (∀ k, k ∈ A.all → k < base) ∧ (∀ k, k ∈ X.all → k < base) ∧ cb < base ∧ cq < base) (high : base ≤ w.heap.size) (a b c d : Int) :
    Calls Try.prog 10 #[.pointer (some ⟨X.x, 0, none⟩), .pointer none, .agg #[.int .i64 a, .int .i64 b, .int .i64 c, .int .i64 d]] w fun e w' => e = .returned (.tuple #[.int .i64 (wd 1 1), .int .i64 0]) ∧
      Ch w' A X cb cq n (upS (fun _ => slot0) 1 ⟨1, 1, 0, a, b, c, d⟩) 1 (List.range' 2 (n - 1)) 1 ls (upE (fun _ => ent0) 1 ⟨wd 1 1, .slice none 0 0, []⟩) [1] base 1 ∧ Only (A.all ++ X.all) w w' := by
  have hn := P.many
  have hr : List.range' 1 n = 1 :: List.range' 2 (n - 1) := by
    obtain ⟨k, rfl⟩ : ∃ k, n = k + 1 := ⟨n - 1, by omega⟩
    rw [List.range'_succ]; simp
  rw [hr] at P
  refine (chain_first X A cb cq n 1 _ _ 0 (List.range' 2 (n - 1)) 0 a b c d w C P SP (Nat.le_refl _) h1 rfl ⟨by simp [slot0], by simp [slot0]⟩ (by omega)).mono ?_
  rintro e w' ⟨he, hP, hC, hO⟩
  refine ⟨he, ?_, hO⟩
  exact {
    pool := hP
    clk := K.only hO (fun hm => by rcases List.mem_append.1 hm with h | h; exact (SP.pool _ h).2.1 rfl; exact (SP.chain _ h).1 rfl) (fun hm => by rcases List.mem_append.1 hm with h | h; exact (SP.pool _ h).2.2 rfl; exact (SP.chain _ h).2 rfl)
    chain := hC
    sep := SP
    vers := ⟨by simp, fun j hj => by simp at hj; omega, fun j hj => by simp at hj; subst hj; rw [upS_same]; refine ⟨?_, ?_, ?_⟩ <;> simp, ⟨by rw [upS_same]; rfl, trivial⟩⟩
    len := by simp; omega
    mark := fun j hj => by simp at hj; subst hj; rw [upS_same]; simp
    ent := fun j hj => by simp at hj; subst hj; rw [upE_same, upS_same]; exact ⟨rfl, Reads.nil _, by simp, fun k hk => by simp [blockOf] at hk⟩
    mine := fun j hj => by simp at hj; subst hj; rw [upE_same]; exact World.ownsRow_nil _ _ _ _
    each := fun j l hj hl hjl => by simp at hj hl; omega
    low := low
    high := Nat.le_trans high hO.size
    free := fun j hj => by
      rw [List.mem_range'_1] at hj
      refine ⟨by simp; omega, ?_⟩
      rw [upS_other _ _ (show j ≠ 1 by omega)]; rfl
    once := List.nodup_range'
    rng := fun j hj => by rw [List.mem_range'_1] at hj; omega
    gens := fun j => by
      by_cases hj : j = 1
      · subst hj; rw [upS_same]; simp
      · rw [upS_other _ _ hj]; simp [slot0]
    tag := by omega
    steps := by omega
    one := by omega }

end Go.Proofs.Yteeibhjmjejplaa
