/- What holds at a round's head of ClockAlone, and its small laws. No condition. -/
import Derived.Test.YtjafpbpickmcpaaClockC
import Derived.Deep.CutBlock
namespace Go.Proofs.Ytjafpbpickmcpaa
open Go.RowKit

/-- A lease's word of the stamp that is kept for it. -/
def wordOf (h : Int) : Int := if h = 0 then 0 else h + 1
def wordsOf (hs : List Int) : List Int := hs.map wordOf

theorem wordsOf_length (hs : List Int) : (wordsOf hs).length = hs.length := by simp [wordsOf]
theorem wordsOf_getD (hs : List Int) (i : Nat) : (wordsOf hs).getD i 0 = wordOf (hs.getD i 0) := by
  simp only [wordsOf, List.getD, List.getElem?_map]
  cases hs[i]? <;> simp [wordOf]
theorem wordsOf_set (hs : List Int) (i : Nat) (x : Int) : wordsOf (hs.set i x) = (wordsOf hs).set i (wordOf x) := by
  simp [wordsOf, List.map_set]
theorem wordsOf_replicate (n : Nat) : wordsOf (List.replicate n 0) = List.replicate n 0 := by
  simp [wordsOf, wordOf]

/-- What stands in memory at a round's head. -/
structure Round (w wr : World) (n : Nat) (b q b2 q2 g : Nat) (now : Int) (hs : List Int) : Prop where
  clk : ClkAt wr b q now (wordsOf hs)
  other : ClkAt wr b2 q2 1 (List.replicate n 0)
  held : Blk wr g (hs.map (Value.int .i64)).toArray 3
  len : hs.length = n
  small : ∀ h, h ∈ hs → 0 ≤ h ∧ h < now
  only : Only [] w wr
  new : w.heap.size ≤ b ∧ w.heap.size ≤ q ∧ w.heap.size ≤ g
  apart : b ≠ b2 ∧ b ≠ q2 ∧ q ≠ b2 ∧ q ≠ q2 ∧ g ≠ b ∧ g ≠ q ∧ g ≠ b2 ∧ g ≠ q2

/-- The script's cells: nothing is asked of an empty one. -/
def Script (w : World) (a : Option Addr) (len : Nat) (zs : List Int) : Prop :=
  len = 0 ∨ ∃ bx ox, a = some ⟨bx, ox, none⟩ ∧ bx < w.heap.size ∧ ∀ i, i < len → ∃ z, zs.getD i 0 = z ∧ w.cell? ⟨bx, ox + i, none⟩ = some (.int .i64 z) ∧ -9223372036854775808 ≤ z ∧ z ≤ 9223372036854775807

theorem Round.step {w wr w2 : World} {n b q b2 q2 g : Nat} {now now' : Int} {hs hs' : List Int} {S : List Nat} (R : Round w wr n b q b2 q2 g now hs) (o : Only S wr w2)
    (hS : ∀ i, i ∈ S → i = b ∨ i = q ∨ i = g ∨ wr.heap.size ≤ i) (c : ClkAt w2 b q now' (wordsOf hs')) (hd : Blk w2 g (hs'.map (Value.int .i64)).toArray 3) (hl : hs'.length = n) (hsm : ∀ h, h ∈ hs' → 0 ≤ h ∧ h < now') :
    Round w w2 n b q b2 q2 g now' hs' := by
  have hb2 := R.other.head.lt
  have hq2 := R.other.row.lt
  have ha := R.apart
  have hn := R.new
  have hsz := R.only.size
  refine ⟨c, R.other.only o ?_ ?_, hd, hl, hsm, R.only.past o ?_, hn, ha⟩
  · intro hm
    rcases hS _ hm with h | h | h | h <;> omega
  · intro hm
    rcases hS _ hm with h | h | h | h <;> omega
  · intro i hi
    right
    rcases hS _ hi with h | h | h | h <;> omega

theorem small_set {hs : List Int} {now x : Int} {k : Nat} (h : ∀ y, y ∈ hs → 0 ≤ y ∧ y < now) (hx : 0 ≤ x ∧ x < now + 1) : ∀ y, y ∈ hs.set k x → 0 ≤ y ∧ y < now + 1 := by
  intro y hy
  rcases List.mem_or_eq_of_mem_set hy with h1 | h1
  · have := h y h1; omega
  · subst h1; exact hx

theorem small_set' {hs : List Int} {now x : Int} {k : Nat} (h : ∀ y, y ∈ hs → 0 ≤ y ∧ y < now) (hx : 0 ≤ x ∧ x < now) : ∀ y, y ∈ hs.set k x → 0 ≤ y ∧ y < now := by
  intro y hy
  rcases List.mem_or_eq_of_mem_set hy with h1 | h1
  · exact h y h1
  · subst h1; exact hx

theorem mem_getD {hs : List Int} {k : Nat} (hk : k < hs.length) : hs.getD k 0 ∈ hs := by
  simp [List.getD, List.getElem?_eq_getElem hk]

theorem getD_cell {hs : List Int} {k : Nat} (hk : k < hs.length) : ((hs.map (Value.int .i64)).toArray)[k]? = some (.int .i64 (hs.getD k 0)) := by
  simp [List.getD, List.getElem?_eq_getElem hk]

theorem wordOf_zero {h : Int} (h0 : 0 ≤ h) : wordOf h = 0 ↔ h = 0 := by
  unfold wordOf; split <;> omega

theorem wordsOf_mem {hs : List Int} {now : Int} (hsm : ∀ h, h ∈ hs → 0 ≤ h ∧ h < now) (hn : now ≤ 1000000) : ∀ x, x ∈ wordsOf hs → 0 ≤ x ∧ x ≤ 1000001 := by
  intro x hx
  obtain ⟨h, hh, rfl⟩ := List.mem_map.1 hx
  have := hsm h hh
  unfold wordOf; split <;> omega

theorem least_replicate (n : Int) : ∀ k, leastL n (List.replicate k 0) = n := by
  intro k
  induction k with
  | zero => rfl
  | succ k ih => rw [List.replicate_succ', leastL_snoc, ih]; simp

theorem least_step (now : Int) (hs : List Int) (k : Nat) (hk : k < hs.length) (h0 : 0 ≤ hs.getD k 0) :
    leastL now (wordsOf (hs.take (k + 1))) = if 0 < hs.getD k 0 ∧ hs.getD k 0 < leastL now (wordsOf (hs.take k)) then hs.getD k 0 else leastL now (wordsOf (hs.take k)) := by
  rw [take_snoc_getD hs k hk]
  have e : wordsOf (hs.take k ++ [hs.getD k 0]) = wordsOf (hs.take k) ++ [wordOf (hs.getD k 0)] := by simp [wordsOf]
  rw [e, leastL_snoc]
  generalize hs.getD k 0 = x at h0 ⊢
  generalize leastL now (wordsOf (hs.take k)) = m
  unfold wordOf
  by_cases hx : x = 0
  · simp [hx]
  · have : ¬ (x + 1 = 0) := by omega
    simp only [hx, if_false, this]
    have e2 : x + 1 - 1 = x := by omega
    rw [e2]
    by_cases hm : x < m
    · rw [if_pos hm, if_pos ⟨by omega, hm⟩]
    · rw [if_neg hm, if_neg (by omega)]

end Go.Proofs.Ytjafpbpickmcpaa
