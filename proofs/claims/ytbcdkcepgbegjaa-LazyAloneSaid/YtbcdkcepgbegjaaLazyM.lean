/- The statement's second loop: what stands in memory; each call of a round as a step of it. Conditions: the calls are few. -/
import Derived.Test.YtbcdkcepgbegjaaLazyL
namespace Go.Proofs.Ytbcdkcepgbegjaa
open Go.RowKit

/-- How far a unit is: was the Once asked, and its cell of the document's; the table's Once, and its cell; how often the Retry's maker was called, what is kept; its cell. -/
structure St where
  aO : Bool
  aA : Bool
  aT : Bool
  aC : Bool
  n : Nat
  kp : Option Nat
  nB : Nat
  dB : Bool

def onceSt (F : Value) (m : Mk) : Bool → Array Value
  | true => onceCells F 1 0 (m.out 1).val (m.out 1).err (m.out 1).well
  | false => onceCells F 0 0 0 0 false
def cellSt (m : Mk) : Bool → Array Value
  | true => cellCells m true 1 (m.out 1).well true (m.out 1).err (m.out 1).val
  | false => cellCells m true 0 false false 0 0
def oneSt (m : Mk) : Bool → Array Value
  | true => oneCells m 1
  | false => oneCells m 0
def bSt (m : Mk) (n : Nat) : Bool → Array Value
  | true => cellCells m false n true false 0 (m.out n).val
  | false => cellCells m false n false false 0 0

def mbl (u : PU × TU × St) : List Nat := u.1.bl ++ [u.2.1.tn, u.2.1.iv] ++ u.2.2.kp.toList

/-- A unit whole. -/
structure MOk (fb : Nat) (w : World) (u : PU × TU × St) : Prop where
  x : Blk w u.1.x (oneSt u.1.m u.2.2.aO) 33
  bx : Blk w u.1.bx #[ptr u.1.x] 29
  o : Blk w u.1.o (onceSt (oneFn u.1.bx) u.1.m u.2.2.aO) 76
  a : Blk w u.1.a (cellSt u.1.m u.2.2.aA) 42
  y : Blk w u.1.y (oneCells u.1.m u.2.2.n) 33
  bY : Blk w u.1.bY #[ptr u.1.y] 29
  r : Blk w u.1.r (retryCells (oneFn u.1.bY) 0 u.2.2.kp) 84
  kept : ∀ q, u.2.2.kp = some q → Blk w q #[.int .i64 (u.1.m.out u.2.2.n).val, .int .i64 0] 74
  b : Blk w u.1.b (bSt u.1.m u.2.2.nB u.2.2.dB) 42
  z : Blk w u.1.z (oneSt u.1.m u.2.2.aT) 33
  c : Blk w u.1.c (cellSt u.1.m u.2.2.aC) 42
  tn : Blk w u.2.1.tn (onceSt (u.2.1.fn fb) u.1.m u.2.2.aT) 76
  iv : Blk w u.2.1.iv #[.int .i64 u.2.1.i] 3
  apart : (mbl u).Nodup

theorem MOk.stable (fb : Nat) : Stable (MOk fb) mbl := fun w w' u S h o hn =>
  ⟨h.x.only o (hn _ (by simp [mbl, PU.bl])), h.bx.only o (hn _ (by simp [mbl, PU.bl])), h.o.only o (hn _ (by simp [mbl, PU.bl])), h.a.only o (hn _ (by simp [mbl, PU.bl])), h.y.only o (hn _ (by simp [mbl, PU.bl])), h.bY.only o (hn _ (by simp [mbl, PU.bl])), h.r.only o (hn _ (by simp [mbl, PU.bl])),
    fun q hq => (h.kept q hq).only o (hn _ (by simp [mbl, hq])), h.b.only o (hn _ (by simp [mbl, PU.bl])), h.z.only o (hn _ (by simp [mbl, PU.bl])), h.c.only o (hn _ (by simp [mbl, PU.bl])), h.tn.only o (hn _ (by simp [mbl])), h.iv.only o (hn _ (by simp [mbl])), h.apart⟩

/-- All that stands in memory in the second loop: slice r (10 .. 17) lies in block g r. -/
structure Main (W : World) (tv tb fb n : Nat) (g cp : Nat → Nat) (gt ct : Nat) (ps : Nat → PU) (ts : Nat → TU) (ow : Nat → Nat) (w : World) (ss : Nat → St) : Prop where
  units : Units (MOk fb) mbl W.heap.size n ow w (fun i => (ps i, ts i, ss i))
  rows : ∀ r, 10 ≤ r → r ≤ 17 → RowO W.heap.size ow r w (es r) (.slice (some ⟨g r, 0, none⟩) n (cp r)) ((fields ps n r).map ptr)
  trow : RowO W.heap.size ow 1 w 34 (.slice (some ⟨gt, 0, none⟩) n ct) (tptrs ts n)
  var : Blk w tv #[.slice (some ⟨g 14, 0, none⟩) n (cp 14)] 27
  tab : Blk w tb #[.slice (some ⟨gt, 0, none⟩) n ct] 86
  box : Blk w fb #[.func (.func 9) #[] #[.pointer (some ⟨tv, 0, none⟩)]] 48
  l2 : At W.heap.size ow 2 w [tb, fb]
  l3 : At W.heap.size ow 3 w [tv]
  idx : ∀ i, i < n → (ts i).i = i
  old : Only [] W w

section
variable {W : World} {tv tb fb n : Nat} {g cp : Nat → Nat} {gt ct : Nat} {ps : Nat → PU} {ts : Nat → TU} {ow ow' : Nat → Nat} {w w' : World} {ss : Nat → St}

theorem Main.low (h : Main W tv tb fb n g cp gt ct ps ts ow w ss) : W.heap.size ≤ w.heap.size := h.old.size

/-- A step that turns one unit alone. -/
theorem Main.set (h : Main W tv tb fb n g cp gt ct ps ts ow w ss) {S : List Nat} (o : Only S w w') (k : Nat) (hS : ∀ b, b ∈ S → b < w.heap.size → W.heap.size ≤ b ∧ ow b = 100 + k) (hN : ∀ b, b ∈ S → b < w.heap.size) (hE : Ext ow ow' w) {s : St} (hP : MOk fb w' (ps k, ts k, s)) (hL : At W.heap.size ow' (100 + k) w' (mbl (ps k, ts k, s))) : Main W tv tb fb n g cp gt ct ps ts ow' w' (upU ss k s) := by
  have off : ∀ l, l < 100 → Off S ow l w := fun l hl b hb hw e => by have := (hS b hb hw).2; omega
  have e : (fun i => (ps i, ts i, upU ss k s i)) = upU (fun i => (ps i, ts i, ss i)) k (ps k, ts k, s) := by
    funext i
    unfold upU
    by_cases hi : i = k
    · subst hi; simp
    · simp [hi]
  refine ⟨?_, fun r h1 h2 => (h.rows r h1 h2).only o (off r (by omega)) hE, h.trow.only o (off 1 (by omega)) hE, h.var.only o (h.l3.out (off 3 (by omega)) _ (by simp)), h.tab.only o (h.l2.out (off 2 (by omega)) _ (by simp)), h.box.only o (h.l2.out (off 2 (by omega)) _ (by simp)), h.l2.ext hE o.size, h.l3.ext hE o.size, h.idx, h.old.past o (fun b hb => Or.inr (hS b hb (hN b hb)).1)⟩
  rw [e]
  exact h.units.set (MOk.stable fb) o k (fun b hb hw => (hS b hb hw).2) hE hP hL

/-- A step that turns nothing old. -/
theorem Main.junk (h : Main W tv tb fb n g cp gt ct ps ts ow w ss) (o : Only [] w w') : Main W tv tb fb n g cp gt ct ps ts ow w' ss :=
  ⟨h.units.only (MOk.stable fb) o (fun _ _ => Off.nil _ _ _) (Ext.refl _ _), fun r h1 h2 => (h.rows r h1 h2).only o (Off.nil _ _ _) (Ext.refl _ _), h.trow.only o (Off.nil _ _ _) (Ext.refl _ _), h.var.only o (by simp), h.tab.only o (by simp), h.box.only o (by simp), h.l2.ext (Ext.refl _ _) o.size, h.l3.ext (Ext.refl _ _) o.size, h.idx, h.old.trans o⟩

theorem Main.unit (h : Main W tv tb fb n g cp gt ct ps ts ow w ss) {k : Nat} (hk : k < n) : MOk fb w (ps k, ts k, ss k) ∧ At W.heap.size ow (100 + k) w (mbl (ps k, ts k, ss k)) := ⟨h.units.each k hk, h.units.lies k hk⟩

theorem Main.cell (h : Main W tv tb fb n g cp gt ct ps ts ow w ss) {k : Nat} (hk : k < n) (r : Nat) (h1 : 10 ≤ r) (h2 : r ≤ 17) : w.cell? ⟨g r, k, none⟩ = some (ptr (field ps r k)) := by
  obtain ⟨g', e, _, _, _, hc⟩ := (h.rows r h1 h2).at (by simp [fields]; omega)
  cases e
  exact hc k _ (by simp [fields, hk])

theorem Main.tcell (h : Main W tv tb fb n g cp gt ct ps ts ow w ss) {k : Nat} (hk : k < n) : w.cell? ⟨gt, k, none⟩ = some (ptr (ts k).tn) := by
  obtain ⟨g', e, _, _, _, hc⟩ := h.trow.at (by simp [tptrs]; omega)
  cases e
  exact hc k _ (tptrs_at ts hk)

theorem Main.cap (h : Main W tv tb fb n g cp gt ct ps ts ow w ss) (hn : 0 < n) (r : Nat) (h1 : 10 ≤ r) (h2 : r ≤ 17) : n ≤ cp r ∧ cp r ≤ maxLen := by
  obtain ⟨g', e, hl, hc, hm, _⟩ := (h.rows r h1 h2).at (by simp [fields]; omega)
  exact ⟨hc, hm⟩
end

end Go.Proofs.Ytbcdkcepgbegjaa
