/- Each call alone: the program's pool and the document's answer alike and turn alike. Conditions: both stand in memory for one and the same state, within the bounds of Ps.Inv. -/
import Derived.Test.YtpknnamficegbaaGreatDoorCRawY
import Derived.Test.YtpknnamficegbaaGreatDoorCRawJ
import Derived.Test.YtpknnamficegbaaGreatDoorCRefV
set_option linter.unusedVariables false
set_option linter.unusedSimpArgs false
set_option linter.unusedSectionVars false
set_option linter.unnecessarySimpa false
namespace Go.Proofs.YtpknnamficegbaaGreatDoor
open Go.RowKit

/-- A pool's state: its slots, the pile's head, tag and links, the faults. -/
structure Ps where
  S : Nat → Sl
  hd : Nat
  t : Int
  nx : List Int
  fa : Int

structure Ps.Inv (s : Ps) (n c : Nat) : Prop where
  tag : 0 ≤ s.t ∧ s.t ≤ 2 * (c : Int)
  fa : 0 ≤ s.fa ∧ s.fa ≤ c
  gen : ∀ j, 0 ≤ (s.S j).gen ∧ (s.S j).gen ≤ 2 * (c : Int)
  hdr : s.hd ≤ n
  len : s.nx.length = n + 1
  rng : ∀ j, j ≤ n → 0 ≤ s.nx.getD j 0 ∧ s.nx.getD j 0 ≤ n
  cnt : c ≤ 1000

def PoolP (w : World) (A : PA) (n : Nat) (s : Ps) : Prop := PoolR w A n s.S s.hd s.t s.nx s.fa
def DocP (w : World) (R : RP) (tb k n : Nat) (s : Ps) : Prop := RefP w R tb k n s.S s.hd s.t s.nx s.fa
def DocQ (w : World) (R : RP) (n : Nat) (s : Ps) : Prop := RefQ w R n s.S s.hd s.t s.nx s.fa

/-- The program's call. -/
def ProgDoes (f : FuncId) (args : Nat → Array Value) (n : Nat) (s s' : Ps) (r : Value) : Prop :=
  ∀ (A : PA) (w : World), PoolP w A n s → Calls Tryz.prog f (args A.p) w fun e w' => e = .returned r ∧ PoolP w' A n s' ∧ Only A.all w w'

/-- The document's call. -/
def DocDoes (f : FuncId) (args : Nat → Nat → Array Value) (n : Nat) (s s' : Ps) (r : Value) : Prop :=
  ∀ (R : RP) (w : World) (tb k : Nat), k ≤ 600000 → DocP w R tb k n s → Calls Tryz.prog f (args R.r tb) w fun e w' => e = .returned r ∧ DocP w' R tb (k + 20) n s' ∧ Byd tb R.all w w'

section
variable {s : Ps} {n c : Nat}

theorem Ps.Inv.more (h : s.Inv n c) (hc : c + 1 ≤ 1000) : s.Inv n (c + 1) := ⟨by have := h.tag; omega, by have := h.fa; omega, fun j => by have := h.gen j; omega, h.hdr, h.len, h.rng, hc⟩

theorem Ps.Inv.fault (h : s.Inv n c) (hc : c + 1 ≤ 1000) : Ps.Inv { s with fa := s.fa + 1 } n (c + 1) := ⟨by have := h.tag; simp only; omega, by have := h.fa; simp only; omega, fun j => by have := h.gen j; simp only; omega, h.hdr, h.len, h.rng, hc⟩

theorem Ps.Inv.slot (h : s.Inv n c) (hc : c + 1 ≤ 1000) (i : Nat) (x : Sl) (hx : 0 ≤ x.gen ∧ x.gen ≤ 2 * (c : Int) + 2) : Ps.Inv { s with S := upS s.S i x } n (c + 1) := ⟨by have := h.tag; simp only; omega, by have := h.fa; simp only; omega, fun j => by
  have := h.gen j
  simp only [upS]
  split
  · omega
  · omega, h.hdr, h.len, h.rng, hc⟩

theorem Ps.Inv.push (h : s.Inv n c) (hc : c + 1 ≤ 1000) (i : Nat) (hi : i ≤ n) (x : Sl) (hx : 0 ≤ x.gen ∧ x.gen ≤ 2 * (c : Int) + 2) : Ps.Inv ⟨upS s.S i x, i, s.t + 1, s.nx.set i (s.hd : Nat), s.fa⟩ n (c + 1) := ⟨by have := h.tag; simp only; omega, by have := h.fa; simp only; omega, fun j => by
  have := h.gen j
  simp only [upS]
  split
  · omega
  · omega, hi, by simpa using h.len, fun j hj => by
  have := h.rng j hj
  have hh := h.hdr
  have hl := h.len
  simp only [getD_set s.nx i j _ (by omega)]
  split
  · omega
  · exact this, hc⟩

theorem Ps.Inv.pop (h : s.Inv n c) (hc : c + 1 ≤ 1000) {k : Nat} (hk : s.nx.getD s.hd 0 = (k : Nat)) (x : Sl) (hx : 0 ≤ x.gen ∧ x.gen ≤ 2 * (c : Int) + 2) : Ps.Inv ⟨upS s.S s.hd x, k, s.t + 1, s.nx, s.fa⟩ n (c + 1) := ⟨by have := h.tag; simp only; omega, by have := h.fa; simp only; omega, fun j => by
  have := h.gen j
  simp only [upS]
  split
  · omega
  · omega, by have := h.rng s.hd h.hdr; simp only; omega, h.len, h.rng, hc⟩

/-- A handle is none's, or it names a slot. -/
theorem handle_cases (n : Nat) (h : Int) : ¬ isHandle n h ∨ ∃ i : Nat, 1 ≤ i ∧ i ≤ n ∧ idxOf h = i ∧ tagOf h % 2 = 1 := by
  by_cases hb : isHandle n h
  · obtain ⟨h1, h2, h3⟩ := hb
    exact Or.inr ⟨(idxOf h).toNat, by omega, by omega, by omega, h3⟩
  · exact Or.inl hb

theorem dmeets_of {R : RP} {h : Int} {i : Nat} (h1 : 1 ≤ i) (h2 : i ≤ n) (hi : idxOf h = i) (hg : tagOf h % 2 = 1) (hS : (s.S i).gen = tagOf h) : DMeets R n s.S s.hd s.t s.nx s.fa h i := fun _ _ _ hk H => ref_meet_ok H hk h1 h2 hi hg hS

theorem dmisses_bad {R : RP} {h : Int} (hb : ¬ isHandle n h) : DMisses R n s.S s.hd s.t s.nx s.fa h 103 s.fa := fun _ _ _ hk H => ref_meet_bad H hk hb

theorem dmisses_gone {R : RP} {h : Int} {i : Nat} (h1 : 1 ≤ i) (h2 : i ≤ n) (hi : idxOf h = i) (hg : tagOf h % 2 = 1) (hS : (s.S i).gen ≠ tagOf h) (hfa : 0 ≤ s.fa ∧ s.fa ≤ 1000000000000) : DMisses R n s.S s.hd s.t s.nx s.fa h 104 (s.fa + 1) := fun _ _ _ hk H => ref_meet_gone H hk h1 h2 hi hg hS hfa

theorem DocP.mono {w : World} {R : RP} {tb k k' : Nat} (h : DocP w R tb k n s) (hk : k ≤ k') : DocP w R tb k' n s := RefP.mono h hk

theorem take_both (I : s.Inv n c) (hc : c + 1 ≤ 1000) (xa xb xc xd l : Int) : ∃ (r f : Int) (s' : Ps), Ps.Inv s' n (c + 1) ∧
    ProgDoes 12 (fun p => #[.pointer (some ⟨p, 0, none⟩), .pointer none, .agg #[.int .i64 xa, .int .i64 xb, .int .i64 xc, .int .i64 xd], .int .i64 l]) n s s' (.tuple #[.int .i64 r, .int .i64 f]) ∧
    DocDoes 20 (fun p tb => #[.pointer (some ⟨p, 0, none⟩), .pointer (some ⟨tb, 0, none⟩), .agg #[.int .i64 xa, .int .i64 xb, .int .i64 xc, .int .i64 xd], .int .i64 l]) n s s' (.tuple #[.int .i64 r, .int .i64 f]) := by
  have ht := I.tag
  have hg := I.gen s.hd
  have hcn := I.cnt
  obtain ⟨S, hd, t, nx, fa⟩ := s
  simp only at ht hg
  by_cases h0 : hd = 0
  · subst h0
    exact ⟨0, 102, _, I.more hc, fun A w H => (rpool_take_full A n S t nx fa xa xb xc xd l w H).mono fun e w' h => ⟨h.1, PoolR.only H h.2 (by simp), h.2.mono (by simp)⟩,
      fun R w tb k hk H => ref_take_full H (by omega)⟩
  · have hr := I.rng hd I.hdr
    have hk : nx.getD hd 0 = ((nx.getD hd 0).toNat : Nat) := by simp only at hr; omega
    exact ⟨_, 0, _, I.pop hc hk ⟨(S hd).gen + 1, 0, l, xa, xb, xc, xd⟩ ⟨by simp only; omega, by simp only; omega⟩,
      fun A w H => rpool_take A n hd _ S t nx fa xa xb xc xd l w H (by omega) hk ⟨hg.1, by omega⟩ (by omega),
      fun R w tb k hk' H => ref_take H (by omega) (by omega) hk (show t + 1 ≤ 1000000000000 by omega) ⟨hg.1, show (S hd).gen ≤ 1000000000000 by omega⟩⟩

theorem give_both (I : s.Inv n c) (hc : c + 1 ≤ 1000) (h : Int) : ∃ (r : Int) (s' : Ps), Ps.Inv s' n (c + 1) ∧
    ProgDoes 13 (fun p => #[.pointer (some ⟨p, 0, none⟩), .pointer none, .int .i64 h]) n s s' (.int .i64 r) ∧
    DocDoes 21 (fun p tb => #[.pointer (some ⟨p, 0, none⟩), .pointer (some ⟨tb, 0, none⟩), .int .i64 h]) n s s' (.int .i64 r) := by
  have ht := I.tag
  have hcn := I.cnt
  rcases handle_cases n h with hb | ⟨i, h1, h2, hi, hg⟩
  · exact ⟨103, s, I.more hc, fun A w H => (rpool_give_bad A n s.S s.hd s.t s.nx s.fa h w H hb).mono fun e w' x => ⟨x.1, x.2 ▸ H, x.2 ▸ Only.refl _ _⟩, fun R w tb k hk H => ref_give_bad H (by omega) hb⟩
  · by_cases hS : (s.S i).gen = tagOf h
    · have hgi := I.gen i
      exact ⟨0, _, I.push hc i h2 (poisoned (tagOf h + 1)) ⟨by simp only [poisoned]; omega, by simp only [poisoned]; omega⟩, fun A w H => rpool_give A n i s.S s.hd s.t s.nx s.fa h _ w H h1 h2 hi rfl hg hS (by omega), fun R w tb k hk H => ref_give H (by omega) h1 h2 hi hg hS (by omega)⟩
    · exact ⟨104, s, I.more hc, fun A w H => (rpool_give_gone A n i s.S s.hd s.t s.nx s.fa h _ w H h1 h2 hi rfl hg hS).mono fun e w' x => ⟨x.1, x.2 ▸ H, x.2 ▸ Only.refl _ _⟩, fun R w tb k hk H => ref_give_gone H (by omega) h1 h2 hi hg hS⟩

theorem read_both (I : s.Inv n c) (hc : c + 1 ≤ 1000) (h : Int) : ∃ (xa xb xc xd f : Int) (s' : Ps), Ps.Inv s' n (c + 1) ∧
    ProgDoes 15 (fun p => #[.pointer (some ⟨p, 0, none⟩), .pointer none, .int .i64 h]) n s s' (.tuple #[.agg #[.int .i64 xa, .int .i64 xb, .int .i64 xc, .int .i64 xd], .int .i64 f]) ∧
    DocDoes 22 (fun p tb => #[.pointer (some ⟨p, 0, none⟩), .pointer (some ⟨tb, 0, none⟩), .int .i64 h]) n s s' (.tuple #[.agg #[.int .i64 xa, .int .i64 xb, .int .i64 xc, .int .i64 xd], .int .i64 f]) := by
  have err : ∀ err fa', (err != 0) = true → (∀ A, RMisses A n s.S s.hd s.t s.nx s.fa h err fa') → (∀ R, DMisses R n s.S s.hd s.t s.nx s.fa h err fa') → Ps.Inv { s with fa := fa' } n (c + 1) → _ := fun err fa' he mA mR hI => (⟨0, 0, 0, 0, err, { s with fa := fa' }, hI, fun A w H => rpool_read_err A n s.S s.hd s.t s.nx s.fa h err fa' w H (mA A) he, fun R w tb k hk H => ref_read_err H (by omega) (mR R) he⟩ : ∃ (xa xb xc xd f : Int) (s' : Ps), Ps.Inv s' n (c + 1) ∧
    ProgDoes 15 (fun p => #[.pointer (some ⟨p, 0, none⟩), .pointer none, .int .i64 h]) n s s' (.tuple #[.agg #[.int .i64 xa, .int .i64 xb, .int .i64 xc, .int .i64 xd], .int .i64 f]) ∧
    DocDoes 22 (fun p tb => #[.pointer (some ⟨p, 0, none⟩), .pointer (some ⟨tb, 0, none⟩), .int .i64 h]) n s s' (.tuple #[.agg #[.int .i64 xa, .int .i64 xb, .int .i64 xc, .int .i64 xd], .int .i64 f]))
  rcases handle_cases n h with hb | ⟨i, h1, h2, hi, hg⟩
  · exact err 103 s.fa (by decide) (fun A => rmisses_bad hb) (fun R => dmisses_bad hb) (I.more hc)
  · by_cases hS : (s.S i).gen = tagOf h
    · exact ⟨_, _, _, _, 0, s, I.more hc, fun A w H => (rpool_read A n i s.S s.hd s.t s.nx s.fa h w H h2 (rmeets_of h1 h2 hi rfl hg hS)).mono fun e w' x => ⟨x.1, PoolR.only H x.2 (by simp), x.2.mono (by simp)⟩, fun R w tb k hk H => ref_read H (by omega) h2 (dmeets_of h1 h2 hi hg hS)⟩
    · have hfa : 0 ≤ s.fa ∧ s.fa ≤ 1000000000000 := by have := I.fa; omega
      exact err 104 (s.fa + 1) (by decide) (fun A => rmisses_gone h1 h2 hi rfl hg hS hfa) (fun R => dmisses_gone h1 h2 hi hg hS hfa) (I.fault hc)

theorem mark_both (I : s.Inv n c) (hc : c + 1 ≤ 1000) (h : Int) : ∃ (r f : Int) (s' : Ps), Ps.Inv s' n (c + 1) ∧
    ProgDoes 23 (fun p => #[.pointer (some ⟨p, 0, none⟩), .pointer none, .int .i64 h]) n s s' (.tuple #[.int .i64 r, .int .i64 f]) ∧
    DocDoes 24 (fun p tb => #[.pointer (some ⟨p, 0, none⟩), .pointer (some ⟨tb, 0, none⟩), .int .i64 h]) n s s' (.tuple #[.int .i64 r, .int .i64 f]) := by
  rcases handle_cases n h with hb | ⟨i, h1, h2, hi, hg⟩
  · exact ⟨0, 103, s, I.more hc, fun A w H => rpool_mark_err A n s.S s.hd s.t s.nx s.fa h 103 s.fa w H (rmisses_bad hb) (by decide), fun R w tb k hk H => (ref_mark_err H (by omega) (dmisses_bad hb) (by decide)).mono fun e w' x => ⟨x.1, x.2.1.mono (by omega), x.2.2⟩⟩
  · by_cases hS : (s.S i).gen = tagOf h
    · exact ⟨_, 0, s, I.more hc, fun A w H => (rpool_mark A n i s.S s.hd s.t s.nx s.fa h w H h2 (rmeets_of h1 h2 hi rfl hg hS)).mono fun e w' x => ⟨x.1, x.2 ▸ H, x.2 ▸ Only.refl _ _⟩, fun R w tb k hk H => (ref_mark H (by omega) h2 (dmeets_of h1 h2 hi hg hS)).mono fun e w' x => ⟨x.1, x.2.1.mono (by omega), x.2.2⟩⟩
    · have hfa : 0 ≤ s.fa ∧ s.fa ≤ 1000000000000 := by have := I.fa; have := I.cnt; omega
      exact ⟨0, 104, { s with fa := s.fa + 1 }, I.fault hc, fun A w H => rpool_mark_err A n s.S s.hd s.t s.nx s.fa h 104 (s.fa + 1) w H (rmisses_gone h1 h2 hi rfl hg hS hfa) (by decide), fun R w tb k hk H => (ref_mark_err H (by omega) (dmisses_gone h1 h2 hi hg hS hfa) (by decide)).mono fun e w' x => ⟨x.1, x.2.1.mono (by omega), x.2.2⟩⟩

theorem link_both (I : s.Inv n c) (hc : c + 1 ≤ 1000) (h : Int) : ∃ (r f : Int) (s' : Ps), Ps.Inv s' n (c + 1) ∧
    ProgDoes 27 (fun p => #[.pointer (some ⟨p, 0, none⟩), .pointer none, .int .i64 h]) n s s' (.tuple #[.int .i64 r, .int .i64 f]) ∧
    DocDoes 28 (fun p tb => #[.pointer (some ⟨p, 0, none⟩), .pointer (some ⟨tb, 0, none⟩), .int .i64 h]) n s s' (.tuple #[.int .i64 r, .int .i64 f]) := by
  rcases handle_cases n h with hb | ⟨i, h1, h2, hi, hg⟩
  · exact ⟨0, 103, s, I.more hc, fun A w H => rpool_link_err A n s.S s.hd s.t s.nx s.fa h 103 s.fa w H (rmisses_bad hb) (by decide), fun R w tb k hk H => (ref_link_err H (by omega) (dmisses_bad hb) (by decide)).mono fun e w' x => ⟨x.1, x.2.1.mono (by omega), x.2.2⟩⟩
  · by_cases hS : (s.S i).gen = tagOf h
    · exact ⟨_, 0, s, I.more hc, fun A w H => (rpool_link A n i s.S s.hd s.t s.nx s.fa h w H h2 (rmeets_of h1 h2 hi rfl hg hS)).mono fun e w' x => ⟨x.1, x.2 ▸ H, x.2 ▸ Only.refl _ _⟩, fun R w tb k hk H => (ref_link H (by omega) h2 (dmeets_of h1 h2 hi hg hS)).mono fun e w' x => ⟨x.1, x.2.1.mono (by omega), x.2.2⟩⟩
    · have hfa : 0 ≤ s.fa ∧ s.fa ≤ 1000000000000 := by have := I.fa; have := I.cnt; omega
      exact ⟨0, 104, { s with fa := s.fa + 1 }, I.fault hc, fun A w H => rpool_link_err A n s.S s.hd s.t s.nx s.fa h 104 (s.fa + 1) w H (rmisses_gone h1 h2 hi rfl hg hS hfa) (by decide), fun R w tb k hk H => (ref_link_err H (by omega) (dmisses_gone h1 h2 hi hg hS hfa) (by decide)).mono fun e w' x => ⟨x.1, x.2.1.mono (by omega), x.2.2⟩⟩

theorem swaplink_both (I : s.Inv n c) (hc : c + 1 ≤ 1000) (h x : Int) : ∃ (r f : Int) (s' : Ps), Ps.Inv s' n (c + 1) ∧
    ProgDoes 29 (fun p => #[.pointer (some ⟨p, 0, none⟩), .pointer none, .int .i64 h, .int .i64 x]) n s s' (.tuple #[.int .i64 r, .int .i64 f]) ∧
    DocDoes 30 (fun p tb => #[.pointer (some ⟨p, 0, none⟩), .pointer (some ⟨tb, 0, none⟩), .int .i64 h, .int .i64 x]) n s s' (.tuple #[.int .i64 r, .int .i64 f]) := by
  rcases handle_cases n h with hb | ⟨i, h1, h2, hi, hg⟩
  · exact ⟨0, 103, s, I.more hc, fun A w H => rpool_swaplink_err A n s.S s.hd s.t s.nx s.fa h 103 s.fa x w H (rmisses_bad hb) (by decide), fun R w tb k hk H => (ref_swaplink_err H (by omega) (dmisses_bad hb) (by decide)).mono fun e w' x => ⟨x.1, x.2.1.mono (by omega), x.2.2⟩⟩
  · by_cases hS : (s.S i).gen = tagOf h
    · have hgi := I.gen i
      exact ⟨_, 0, _, I.slot hc i { s.S i with link := x } ⟨by simp only; omega, by simp only; omega⟩, fun A w H => rpool_swaplink A n i s.S s.hd s.t s.nx s.fa h x w H h2 (rmeets_of h1 h2 hi rfl hg hS), fun R w tb k hk H => (ref_swaplink H (by omega) h2 (dmeets_of h1 h2 hi hg hS)).mono fun e w' x => ⟨x.1, x.2.1.mono (by omega), x.2.2⟩⟩
    · have hfa : 0 ≤ s.fa ∧ s.fa ≤ 1000000000000 := by have := I.fa; have := I.cnt; omega
      exact ⟨0, 104, { s with fa := s.fa + 1 }, I.fault hc, fun A w H => rpool_swaplink_err A n s.S s.hd s.t s.nx s.fa h 104 (s.fa + 1) x w H (rmisses_gone h1 h2 hi rfl hg hS hfa) (by decide), fun R w tb k hk H => (ref_swaplink_err H (by omega) (dmisses_gone h1 h2 hi hg hS hfa) (by decide)).mono fun e w' x => ⟨x.1, x.2.1.mono (by omega), x.2.2⟩⟩

theorem cas_both (I : s.Inv n c) (hc : c + 1 ≤ 1000) (h old x : Int) : ∃ (r : Bool) (f : Int) (s' : Ps), Ps.Inv s' n (c + 1) ∧
    ProgDoes 25 (fun p => #[.pointer (some ⟨p, 0, none⟩), .pointer none, .int .i64 h, .int .i64 old, .int .i64 x]) n s s' (.tuple #[.bool r, .int .i64 f]) ∧
    DocDoes 26 (fun p tb => #[.pointer (some ⟨p, 0, none⟩), .pointer (some ⟨tb, 0, none⟩), .int .i64 h, .int .i64 old, .int .i64 x]) n s s' (.tuple #[.bool r, .int .i64 f]) := by
  rcases handle_cases n h with hb | ⟨i, h1, h2, hi, hg⟩
  · exact ⟨false, 103, s, I.more hc, fun A w H => rpool_cas_err A n s.S s.hd s.t s.nx s.fa h 103 s.fa old x w H (rmisses_bad hb) (by decide), fun R w tb k hk H => (ref_cas_err H (by omega) (dmisses_bad hb) (by decide)).mono fun e w' x => ⟨x.1, x.2.1.mono (by omega), x.2.2⟩⟩
  · by_cases hS : (s.S i).gen = tagOf h
    · have hgi := I.gen i
      by_cases ho : (s.S i).mark = old
      · subst ho
        exact ⟨true, 0, _, I.slot hc i { s.S i with mark := x } ⟨by simp only; omega, by simp only; omega⟩, fun A w H => rpool_cas_hit A n i s.S s.hd s.t s.nx s.fa h x w H h2 (rmeets_of h1 h2 hi rfl hg hS), fun R w tb k hk H => (ref_cas_hit H (by omega) h2 (dmeets_of h1 h2 hi hg hS)).mono fun e w' x => ⟨x.1, x.2.1.mono (by omega), x.2.2⟩⟩
      · exact ⟨false, 0, s, I.more hc, fun A w H => (rpool_cas_miss A n i s.S s.hd s.t s.nx s.fa h old x w H h2 (rmeets_of h1 h2 hi rfl hg hS) ho).mono fun e w' x => ⟨x.1, x.2 ▸ H, x.2 ▸ Only.refl _ _⟩, fun R w tb k hk H => (ref_cas_miss H (by omega) h2 (dmeets_of h1 h2 hi hg hS) ho).mono fun e w' x => ⟨x.1, x.2.1.mono (by omega), x.2.2⟩⟩
    · have hfa : 0 ≤ s.fa ∧ s.fa ≤ 1000000000000 := by have := I.fa; have := I.cnt; omega
      exact ⟨false, 104, { s with fa := s.fa + 1 }, I.fault hc, fun A w H => rpool_cas_err A n s.S s.hd s.t s.nx s.fa h 104 (s.fa + 1) old x w H (rmisses_gone h1 h2 hi rfl hg hS hfa) (by decide), fun R w tb k hk H => (ref_cas_err H (by omega) (dmisses_gone h1 h2 hi hg hS hfa) (by decide)).mono fun e w' x => ⟨x.1, x.2.1.mono (by omega), x.2.2⟩⟩

theorem back_both (I : s.Inv n c) (hc : c + 1 ≤ 1000) (i gen : Int) (hr : -9223372036854775808 ≤ gen ∧ gen ≤ 9223372036854775807) : ∃ (r : Int) (s' : Ps), Ps.Inv s' n (c + 1) ∧
    ProgDoes 32 (fun p => #[.pointer (some ⟨p, 0, none⟩), .pointer none, .int .i64 i, .int .i64 gen]) n s s' (.int .i64 r) ∧
    DocDoes 33 (fun p tb => #[.pointer (some ⟨p, 0, none⟩), .pointer (some ⟨tb, 0, none⟩), .int .i64 i, .int .i64 gen]) n s s' (.int .i64 r) := by
  have ht := I.tag
  have hcn := I.cnt
  by_cases hb : i < 1 ∨ (n : Int) < i ∨ gen < 0 ∨ gen % 2 = 1
  · exact ⟨103, s, I.more hc, fun A w H => (rpool_back_bad A n s.hd s.S s.t s.nx s.fa i gen w H hb).mono fun e w' x => ⟨x.1, x.2 ▸ H, x.2 ▸ Only.refl _ _⟩, fun R w tb k hk H => ref_back_bad H (by omega) hb⟩
  · obtain ⟨j, rfl⟩ : ∃ j : Nat, i = (j : Nat) := ⟨i.toNat, by omega⟩
    have h1 : 1 ≤ j := by omega
    have h2 : j ≤ n := by omega
    have h3 : 0 ≤ gen := by omega
    have h4 : gen % 2 = 0 := by omega
    by_cases hS : (s.S j).gen = gen
    · have hgi := I.gen j
      exact ⟨0, _, I.push hc j h2 { s.S j with gen := gen + 2 } ⟨by simp only; omega, by simp only; omega⟩, fun A w H => rpool_back A n j s.hd s.S s.t s.nx s.fa gen w H h1 h2 h3 h4 hS (by omega) (by omega), fun R w tb k hk H => ref_back H (by omega) h1 h2 h3 h4 hS (by omega) (by omega)⟩
    · exact ⟨104, s, I.more hc, fun A w H => (rpool_back_gone A n j s.hd s.S s.t s.nx s.fa gen w H h1 h2 h3 h4 hS).mono fun e w' x => ⟨x.1, x.2 ▸ H, x.2 ▸ Only.refl _ _⟩, fun R w tb k hk H => ref_back_gone H (by omega) h1 h2 h3 h4 hS hr⟩

end

end Go.Proofs.YtpknnamficegbaaGreatDoor

