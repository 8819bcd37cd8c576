/- Small lemmas on worlds: a block known whole, and what a call may have written. They hold of every world, without a condition of their own. -/
import Derived.WalkKit
import Derived.WalkSpells
import Derived.WalkLawsBesides
import Derived.Lib.Hide
import Derived.Deep.QuietTactic
import Derived.BigQuiet
import Derived.Deep.LoopGhost
import Derived.Deep.OwnRows
import Derived.Deep.DeepCutAuto
import Derived.Deep.RegionWith
import Derived.StillTailTactics
set_option linter.unusedVariables false
set_option linter.unusedSimpArgs false
set_option linter.unusedSectionVars false
set_option linter.unnecessarySimpa false
namespace Go.Proofs.YtpknnamficegbaaGreatDoor
open Go.RowKit

/-- The block is known whole, and nothing of it is frozen. -/
def Blk (w : World) (b : Nat) (vs : Array Value) (t : TypeId) : Prop := w.heap[b]? = some (.cells vs t (0, 0))

theorem Blk.lt {w : World} {b : Nat} {vs : Array Value} {t : TypeId} (h : Blk w b vs t) : b < w.heap.size := (Array.getElem?_eq_some_iff.1 h).1

theorem Blk.cell {w : World} {b : Nat} {vs : Array Value} {t : TypeId} (h : Blk w b vs t) (o : Nat) {v : Value} (hv : vs[o]? = some v) : w.cell? ⟨b, o, none⟩ = some v := by
  unfold Blk at h
  simp [World.cell?, h, hv]

theorem Blk.free {w : World} {b : Nat} {vs : Array Value} {t : TypeId} (h : Blk w b vs t) (o : Nat) : w.frozen? ⟨b, o, none⟩ = false := by
  unfold Blk at h
  simp [World.frozen?, h]

theorem Blk.set_same {w : World} {b : Nat} {vs : Array Value} {t : TypeId} (h : Blk w b vs t) (o : Nat) (v : Value) : Blk (w.setCell ⟨b, o, none⟩ v) b (vs.setIfInBounds o v) t := by
  unfold Blk at *
  simp [World.setCell, Array.getElem?_modify, h]

theorem Blk.set_other {w : World} {b : Nat} {vs : Array Value} {t : TypeId} (h : Blk w b vs t) {a : Addr} (ha : b ≠ a.block) (v : Value) : Blk (w.setCell a v) b vs t := by
  unfold Blk at *
  rw [Below.heap_setCell _ _ _ _ ha]; exact h

theorem Blk.alloc {w : World} {b : Nat} {vs : Array Value} {t : TypeId} (h : Blk w b vs t) (o : Obj) : Blk (w.alloc o) b vs t := by
  have hl := h.lt
  unfold Blk at *
  rw [Below.heap_alloc _ _ _ hl]; exact h

theorem Blk.drew {w : World} {b : Nat} {vs : Array Value} {t : TypeId} (h : Blk w b vs t) : Blk w.drew b vs t := h

theorem Blk.new (w : World) (vs : Array Value) (t : TypeId) : Blk (w.alloc (.cells vs t)) w.heap.size vs t := by
  unfold Blk
  show (w.heap.push _)[_]? = _
  simp

/-- What may have turned among the old blocks: those of the list, no other. -/
structure Only (S : List Nat) (w w' : World) : Prop where
  os : w'.os = w.os
  tape : w'.tape = w.tape
  output : w'.output = w.output
  size : w.heap.size ≤ w'.heap.size
  block : ∀ k, k < w.heap.size → k ∉ S → w'.heap[k]? = w.heap[k]?

theorem Only.refl (S : List Nat) (w : World) : Only S w w := ⟨rfl, rfl, rfl, Nat.le_refl _, fun _ _ _ => rfl⟩

theorem Only.trans {S : List Nat} {a b c : World} (h : Only S a b) (k : Only S b c) : Only S a c :=
  ⟨k.os.trans h.os, k.tape.trans h.tape, k.output.trans h.output, Nat.le_trans h.size k.size,
    fun i hi hs => (k.block i (Nat.lt_of_lt_of_le hi h.size) hs).trans (h.block i hi hs)⟩

theorem Only.mono {S T : List Nat} {w w' : World} (h : Only S w w') (hs : ∀ k, k ∈ S → k ∈ T) : Only T w w' :=
  ⟨h.os, h.tape, h.output, h.size, fun k hk hn => h.block k hk fun hm => hn (hs k hm)⟩

/-- A later step may write to blocks that are newer than the first world: of the old ones nothing more. -/
theorem Only.past {S T : List Nat} {a b c : World} (h : Only S a b) (k : Only T b c) (hs : ∀ i, i ∈ T → i ∈ S ∨ a.heap.size ≤ i) : Only S a c :=
  ⟨k.os.trans h.os, k.tape.trans h.tape, k.output.trans h.output, Nat.le_trans h.size k.size,
    fun i hi hn => (k.block i (Nat.lt_of_lt_of_le hi h.size) fun hm => by
      rcases hs i hm with h1 | h1
      · exact hn h1
      · omega).trans (h.block i hi hn)⟩

theorem Only.drew (S : List Nat) (w : World) : Only S w w.drew := ⟨rfl, rfl, rfl, Nat.le_refl _, fun _ _ _ => rfl⟩

theorem Only.drewN (S : List Nat) (w : World) (n : Nat) : Only S w (w.drewN n) := ⟨rfl, rfl, rfl, Nat.le_refl _, fun _ _ _ => rfl⟩

theorem Only.alloc (S : List Nat) (w : World) (o : Obj) : Only S w (w.alloc o) :=
  ⟨rfl, rfl, rfl, by simp, fun k hk _ => Below.heap_alloc _ _ _ hk⟩

theorem Only.setCell {S : List Nat} (w : World) {a : Addr} (ha : a.block ∈ S) (v : Value) : Only S w (w.setCell a v) :=
  ⟨rfl, rfl, rfl, by simp [World.setCell], fun k _ hn => Below.heap_setCell _ _ _ _ fun e => hn (e ▸ ha)⟩

theorem Only.below {w w' : World} (h : Only [] w w') : Below w.heap.size w w' := ⟨h.os, h.tape, h.output, h.size, fun k hk => h.block k hk (by simp)⟩

theorem Only.of_below {S : List Nat} {w w' : World} (h : Below w.heap.size w w') : Only S w w' := ⟨h.os, h.tape, h.output, h.size, fun k hk _ => h.block k hk⟩

theorem Only.at {S : List Nat} {w w' : World} (h : Only S w w') {b : Nat} (hb : b < w.heap.size) (hn : b ∉ S) : w'.heap[b]? = w.heap[b]? := h.block b hb hn

theorem Blk.only {S : List Nat} {w w' : World} {b : Nat} {vs : Array Value} {t : TypeId} (hB : Blk w b vs t) (h : Only S w w') (hn : b ∉ S) : Blk w' b vs t := by
  have hl := hB.lt
  unfold Blk at *
  rw [h.block b hl hn]; exact hB

theorem Only.cell {S : List Nat} {w w' : World} (h : Only S w w') {p : Addr} (hp : p.block < w.heap.size) (hn : p.block ∉ S) : w'.cell? p = w.cell? p := World.cell?_of_block (w := w) (h.block p.block hp hn)

theorem Only.frozen {S : List Nat} {w w' : World} (h : Only S w w') {p : Addr} (hp : p.block < w.heap.size) (hn : p.block ∉ S) : w'.frozen? p = w.frozen? p := World.frozen?_of_block (w := w) (h.block p.block hp hn)

/-- At a call the world is given a name of its own: of it is known what is proved here, and nothing else. -/
theorem calls_name {P : Program} {f : FuncId} {args : Array Value} {w : World} {R : Ending → World → Prop} (I : World → Prop) (hI : I w) (h : ∀ w1, I w1 → Calls P f args w1 R) : Calls P f args w R := h w hI

theorem Blk.setRow {w : World} {b : Nat} {vs cs : Array Value} {t : TypeId} (h : Blk w b vs t) : Blk (w.setRow b cs) b cs t := setRow_heap w b vs cs t (0, 0) h

theorem Blk.setRow_other {w : World} {b g : Nat} {vs cs : Array Value} {t : TypeId} (h : Blk w b vs t) (hn : b ≠ g) : Blk (w.setRow g cs) b vs t := by
  unfold Blk at *
  rw [_root_.Go.setRow_other w g b cs hn]; exact h

theorem Only.setRow {S : List Nat} (w : World) {g : Nat} (hg : g ∈ S) (cs : Array Value) : Only S w (w.setRow g cs) :=
  ⟨rfl, rfl, rfl, by simp, fun k _ hn => _root_.Go.setRow_other w g k cs fun e => hn (e ▸ hg)⟩

theorem Only.of_grown {w w' : World} {row : Option Nat} (h : w.grownBy w' row) {S : List Nat} (hr : ∀ k, row = some k → k ∈ S) : Only S w w' :=
  ⟨h.os, h.tape, h.output, h.size, fun k hk hn => h.block k hk fun e => hn (hr k e.symm)⟩

/-- Behind an append to a slice of the call's own (one new block for what is appended). -/
theorem Only.appended {S : List Nat} {w wr w1 : World} {o : Obj} {e : TypeId} {size : Nat} {v : Value} {n : Nat} {xs : List Value} {base : Nat} (h : Only S w wr) (hown : wr.ownsRow base e size v n xs) (hb : w.heap.size ≤ base) (hg : (wr.alloc o).grownBy w1 v.ownBlock) : Only S w w1 :=
  (h.trans (Only.alloc S wr o)).past (Only.of_grown hg (S := v.ownBlock.toList) (by intro k hk; simp [hk])) (by intro k hk; right; exact Nat.le_trans hb (hown.lt k (by simpa using hk)).1)

/-- A slice that the call itself has made, and its elements: the block is known whole. -/
theorem own_open {w : World} {base : Nat} {e : TypeId} {v : Value} {n : Nat} {xs : List Value} (h : w.ownsRow base e 1 v n xs) (hn : 0 < n) :
    ∃ g cap rest, v = .slice (some ⟨g, 0, none⟩) n cap ∧ base ≤ g ∧ n ≤ cap ∧ cap ≤ maxLen ∧ Blk w g (xs ++ rest).toArray e := by
  obtain ⟨hl, h⟩ := h
  rcases h with ⟨rfl, rfl⟩ | ⟨g, cap, cur, hv, hg, hb, hnc, hm, hs, ht⟩
  · omega
  · refine ⟨g, cap, cur.toList.drop n, hv, hg, hnc, hm, ?_⟩
    unfold Blk
    rw [hb, ← ht]
    simp

theorem wp_name {P : Program} {c : Code} {Q : Exit → Act → World → Prop} {a : Act} {w : World} (I : World → Prop) (hI : I w) (h : ∀ w1, I w1 → c.wp P Q a w1) : c.wp P Q a w := h w hI

end Go.Proofs.YtpknnamficegbaaGreatDoor

