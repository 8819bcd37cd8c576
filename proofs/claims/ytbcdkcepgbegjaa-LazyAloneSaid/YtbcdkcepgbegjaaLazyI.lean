/- The rows and the units that the statement builds in its first loop: laws alone, no program steps. No condition. -/
import Derived.Test.YtbcdkcepgbegjaaLazyH
namespace Go.Proofs.Ytbcdkcepgbegjaa
open Go.RowKit

def ptr (b : Nat) : Value := .pointer (some ⟨b, 0, none⟩)

/-- What is made for one maker: three makers of the statement's own, two boxes, a Once, a Retry, three of the document's cells. -/
structure PU where
  m : Mk
  x : Nat
  y : Nat
  z : Nat
  bx : Nat
  o : Nat
  bY : Nat
  r : Nat
  a : Nat
  b : Nat
  c : Nat

def PU.bl (p : PU) : List Nat := [p.x, p.y, p.z, p.bx, p.o, p.bY, p.r, p.a, p.b, p.c]

def oneFn (b : Nat) : Value := .func (.func 21) #[] #[.pointer (some ⟨b, 0, none⟩)]

structure PU.ok (w : World) (p : PU) : Prop where
  x : Blk w p.x (oneCells p.m 0) 33
  y : Blk w p.y (oneCells p.m 0) 33
  z : Blk w p.z (oneCells p.m 0) 33
  bx : Blk w p.bx #[ptr p.x] 29
  o : Blk w p.o (onceCells (oneFn p.bx) 0 0 0 0 false) 76
  bY : Blk w p.bY #[ptr p.y] 29
  r : Blk w p.r (retryCells (oneFn p.bY) 0 none) 84
  a : Blk w p.a (cellCells p.m true 0 false false 0 0) 42
  b : Blk w p.b (cellCells p.m false 0 false false 0 0) 42
  c : Blk w p.c (cellCells p.m true 0 false false 0 0) 42
  apart : p.bl.Nodup

theorem PU.stable : Stable PU.ok PU.bl := fun w w' p S h o hn =>
  ⟨h.x.only o (hn _ (by simp [PU.bl])), h.y.only o (hn _ (by simp [PU.bl])), h.z.only o (hn _ (by simp [PU.bl])), h.bx.only o (hn _ (by simp [PU.bl])), h.o.only o (hn _ (by simp [PU.bl])), h.bY.only o (hn _ (by simp [PU.bl])), h.r.only o (hn _ (by simp [PU.bl])), h.a.only o (hn _ (by simp [PU.bl])), h.b.only o (hn _ (by simp [PU.bl])), h.c.only o (hn _ (by simp [PU.bl])), h.apart⟩

/-- What the unit under way has so far. -/
structure News (base k : Nat) (ow : Nat → Nat) (w : World) (ns : List (Nat × Array Value × TypeId)) : Prop where
  each : ∀ e, e ∈ ns → Blk w e.1 e.2.1 e.2.2
  lies : At base ow (100 + k) w (ns.map (·.1))
  once : (ns.map (·.1)).Nodup

/-- A row's element type, by its label. -/
def es (r : Nat) : TypeId := if r = 10 then 34 else if r = 11 then 38 else if r ≤ 14 then 29 else 40

/-- All that the first loop has made so far. -/
structure Bun (base tv k : Nat) (ow : Nat → Nat) (w : World) (ps : Nat → PU) (vs : Nat → Value) (Ls : Nat → List Nat) (u : Value) (ns : List (Nat × Array Value × TypeId)) : Prop where
  units : Units PU.ok PU.bl base k ow w ps
  rows : ∀ r, 10 ≤ r → r ≤ 17 → RowO base ow r w (es r) (vs r) ((Ls r).map ptr)
  var : Blk w tv #[u] 27
  tl : At base ow 3 w [tv]
  news : News base k ow w ns

theorem Bun.only {base tv k : Nat} {ow ow' : Nat → Nat} {w w' : World} {ps : Nat → PU} {vs : Nat → Value} {Ls : Nat → List Nat} {u : Value} {ns : List (Nat × Array Value × TypeId)} {S : List Nat} (h : Bun base tv k ow w ps vs Ls u ns) (o : Only S w w') (hS : ∀ l, l = 3 ∨ (10 ≤ l ∧ l ≤ 17) ∨ (100 ≤ l ∧ l ≤ 100 + k) → Off S ow l w) (hE : Ext ow ow' w) : Bun base tv k ow' w' ps vs Ls u ns :=
  ⟨h.units.only PU.stable o (fun i hi => hS _ (by omega)) hE, fun r h1 h2 => (h.rows r h1 h2).only o (hS _ (by omega)) hE, h.var.only o (h.tl.out (hS _ (by omega)) _ (by simp)), h.tl.ext hE o.size,
    ⟨fun e he => (h.news.each e he).only o (h.news.lies.out (hS _ (by omega)) _ (List.mem_map_of_mem he)), h.news.lies.ext hE o.size, h.news.once⟩⟩

/-- A step that turns no old block. -/
theorem Bun.junk {base tv k : Nat} {ow : Nat → Nat} {w w' : World} {ps : Nat → PU} {vs : Nat → Value} {Ls : Nat → List Nat} {u : Value} {ns : List (Nat × Array Value × TypeId)} (h : Bun base tv k ow w ps vs Ls u ns) (o : Only [] w w') : Bun base tv k ow w' ps vs Ls u ns :=
  h.only o (fun _ _ => Off.nil _ _ _) (Ext.refl _ _)

theorem Bun.low {base tv k : Nat} {ow : Nat → Nat} {w : World} {ps : Nat → PU} {vs : Nat → Value} {Ls : Nat → List Nat} {u : Value} {ns : List (Nat × Array Value × TypeId)} (h : Bun base tv k ow w ps vs Ls u ns) : base ≤ w.heap.size := by have := h.tl tv (by simp); omega

/-- A new block of the unit under way. -/
theorem Bun.make {base tv k : Nat} {ow : Nat → Nat} {w w' : World} {ps : Nat → PU} {vs : Nat → Value} {Ls : Nat → List Nat} {u : Value} {ns : List (Nat × Array Value × TypeId)} (h : Bun base tv k ow w ps vs Ls u ns) {b : Nat} {cs : Array Value} {T : TypeId} (hb : w.heap.size ≤ b) (o : Only [] w w') (hB : Blk w' b cs T) : Bun base tv k (fresh ow w (100 + k)) w' ps vs Ls u (ns ++ [(b, cs, T)]) := by
  have h1 := h.only o (fun _ _ => Off.nil _ _ _) (Ext.fresh ow w (100 + k))
  have hl := h.low
  refine ⟨h1.units, h1.rows, h1.var, h1.tl, ⟨?_, ?_, ?_⟩⟩
  · intro e he
    rcases List.mem_append.1 he with he | he
    · exact h1.news.each e he
    · simp at he; subst he; exact hB
  · rw [List.map_append]
    refine h1.news.lies.app ?_
    intro c hc
    simp at hc; subst hc
    exact ⟨by omega, hB.lt, fresh_new hb⟩
  · rw [List.map_append, List.nodup_append]
    refine ⟨h1.news.once, by simp, ?_⟩
    intro c hc d hd
    simp at hd; subst hd
    have := h.news.lies c hc
    omega

/-- A row one longer. -/
theorem Bun.app {base tv k : Nat} {ow ow' : Nat → Nat} {w w' : World} {ps : Nat → PU} {vs : Nat → Value} {Ls : Nat → List Nat} {u : Value} {ns : List (Nat × Array Value × TypeId)} (h : Bun base tv k ow w ps vs Ls u ns) (r : Nat) (h1 : 10 ≤ r) (h2 : r ≤ 17) {b : Nat} {v' : Value} (o : Only (vs r).ownBlock.toList w w') (hr : RowO base ow' r w' (es r) v' ((Ls r).map ptr ++ [ptr b])) (hE : Ext ow ow' w) :
    Bun base tv k ow' w' ps (upU vs r v') (upU Ls r (Ls r ++ [b])) u ns := by
  have hv := (h.rows r h1 h2).lies
  refine ⟨h.units.only PU.stable o (fun i _ => hv.off (by omega)) hE, ?_, h.var.only o (h.tl.out (hv.off (by omega)) _ (by simp)), h.tl.ext hE o.size,
    ⟨fun e he => (h.news.each e he).only o (h.news.lies.out (hv.off (by omega)) _ (List.mem_map_of_mem he)), h.news.lies.ext hE o.size, h.news.once⟩⟩
  intro q hq1 hq2
  by_cases hqr : q = r
  · subst hqr
    rw [upU_same, upU_same, List.map_append]
    exact hr
  · rw [upU_other _ _ hqr, upU_other _ _ hqr]
    exact (h.rows q hq1 hq2).only o (hv.off (fun e => hqr e.symm)) hE

/-- The captured variable is written. -/
theorem Bun.put {base tv k : Nat} {ow : Nat → Nat} {w w' : World} {ps : Nat → PU} {vs : Nat → Value} {Ls : Nat → List Nat} {u : Value} {ns : List (Nat × Array Value × TypeId)} (h : Bun base tv k ow w ps vs Ls u ns) (u' : Value) (hw : w.setCell ⟨tv, 0, none⟩ u' = w') : Bun base tv k ow w' ps vs Ls u' ns := by
  have o : Only [tv] w w' := hw ▸ Only.setCell _ (by simp) _
  have hE := Ext.refl ow w
  refine ⟨h.units.only PU.stable o (fun i _ => h.tl.off (by omega)) hE, fun r h1 h2 => (h.rows r h1 h2).only o (h.tl.off (by omega)) hE, ?_, h.tl.ext hE o.size,
    ⟨fun e he => (h.news.each e he).only o (h.news.lies.out (h.tl.off (by omega)) _ (List.mem_map_of_mem he)), h.news.lies.ext hE o.size, h.news.once⟩⟩
  rw [← hw]
  exact h.var.set_same 0 u'

theorem Bun.perm {base tv k : Nat} {ow : Nat → Nat} {w : World} {ps : Nat → PU} {vs : Nat → Value} {Ls : Nat → List Nat} {u : Value} {ns ns' : List (Nat × Array Value × TypeId)} (h : Bun base tv k ow w ps vs Ls u ns) (hp : ns.Perm ns') : Bun base tv k ow w ps vs Ls u ns' :=
  ⟨h.units, h.rows, h.var, h.tl, ⟨fun e he => h.news.each e (hp.mem_iff.2 he), h.news.lies.sub (fun _ hb => (hp.map _).mem_iff.2 hb), ((hp.map (·.1)).nodup_iff).1 h.news.once⟩⟩

/-- A step of the call's own is behind base. -/
theorem Bun.past {base tv k : Nat} {ow : Nat → Nat} {w : World} {ps : Nat → PU} {vs : Nat → Value} {Ls : Nat → List Nat} {u : Value} {ns : List (Nat × Array Value × TypeId)} (h : Bun base tv k ow w ps vs Ls u ns) (r : Nat) (h1 : 10 ≤ r) (h2 : r ≤ 17) : ∀ b, b ∈ (vs r).ownBlock.toList → base ≤ b := fun b hb => ((h.rows r h1 h2).lies b hb).1

/-- The unit is whole. -/
theorem Bun.unit {base tv k : Nat} {ow : Nat → Nat} {w : World} {ps : Nat → PU} {vs : Nat → Value} {Ls : Nat → List Nat} {u : Value} (p : PU)
    (h : Bun base tv k ow w ps vs Ls u [(p.x, oneCells p.m 0, 33), (p.y, oneCells p.m 0, 33), (p.z, oneCells p.m 0, 33), (p.bx, #[ptr p.x], 29), (p.o, onceCells (oneFn p.bx) 0 0 0 0 false, 76), (p.bY, #[ptr p.y], 29), (p.r, retryCells (oneFn p.bY) 0 none, 84), (p.a, cellCells p.m true 0 false false 0 0, 42), (p.b, cellCells p.m false 0 false false 0 0, 42), (p.c, cellCells p.m true 0 false false 0 0, 42)]) :
    Bun base tv (k + 1) ow w (upU ps k p) vs Ls u [] := by
  have he := h.news.each
  refine ⟨h.units.snoc ⟨he (p.x, oneCells p.m 0, 33) (by simp), he (p.y, oneCells p.m 0, 33) (by simp), he (p.z, oneCells p.m 0, 33) (by simp), he (p.bx, #[ptr p.x], 29) (by simp), he (p.o, onceCells (oneFn p.bx) 0 0 0 0 false, 76) (by simp), he (p.bY, #[ptr p.y], 29) (by simp), he (p.r, retryCells (oneFn p.bY) 0 none, 84) (by simp), he (p.a, cellCells p.m true 0 false false 0 0, 42) (by simp), he (p.b, cellCells p.m false 0 false false 0 0, 42) (by simp), he (p.c, cellCells p.m true 0 false false 0 0, 42) (by simp), h.news.once⟩ h.news.lies, h.rows, h.var, h.tl, ⟨(fun _ h => absurd h (by simp)), At.nil _ _ _ _, List.nodup_nil⟩⟩

/-- The rows' blocks, by their labels. -/
def field (ps : Nat → PU) (r i : Nat) : Nat :=
  if r = 10 then (ps i).o else if r = 11 then (ps i).r else if r = 12 then (ps i).x else if r = 13 then (ps i).y else if r = 14 then (ps i).z else if r = 15 then (ps i).a else if r = 16 then (ps i).b else (ps i).c

def fields (ps : Nat → PU) (k r : Nat) : List Nat := (List.range k).map (field ps r)

theorem fields_length (ps : Nat → PU) (k r : Nat) : (fields ps k r).length = k := by simp [fields]

theorem fields_snoc (ps : Nat → PU) (k r : Nat) (p : PU) : fields (upU ps k p) (k + 1) r = fields ps k r ++ [field (fun _ => p) r 0] := by
  unfold fields
  rw [List.range_succ, List.map_append]
  congr 1
  · refine List.map_congr_left fun i hi => ?_
    have hik : i ≠ k := by have := List.mem_range.1 hi; omega
    unfold field
    rw [upU_other _ _ hik]
  · simp [field, upU_same]

theorem Bun.congr {base tv k : Nat} {ow : Nat → Nat} {w : World} {ps : Nat → PU} {vs : Nat → Value} {Ls Ls' : Nat → List Nat} {u : Value} {ns : List (Nat × Array Value × TypeId)} (h : Bun base tv k ow w ps vs Ls u ns) (e : ∀ r, 10 ≤ r → r ≤ 17 → Ls r = Ls' r) : Bun base tv k ow w ps vs Ls' u ns :=
  ⟨h.units, fun r h1 h2 => (e r h1 h2) ▸ h.rows r h1 h2, h.var, h.tl, h.news⟩

/-- Three new blocks. -/
theorem Bun.three {base tv k : Nat} {ow : Nat → Nat} {w : World} {ps : Nat → PU} {vs : Nat → Value} {Ls : Nat → List Nat} {u : Value} (h : Bun base tv k ow w ps vs Ls u []) (cs : Array Value) (T : TypeId) :
    ∃ ow', Bun base tv k ow' (((w.alloc (.cells cs T)).alloc (.cells cs T)).alloc (.cells cs T)).drew ps vs Ls u [(w.heap.size, cs, T), (w.heap.size + 1, cs, T), (w.heap.size + 1 + 1, cs, T)] := by
  have h1 := h.make (Nat.le_refl _) (Only.alloc [] w (.cells cs T)) (Blk.new w cs T)
  have h2 := h1.make (Nat.le_refl _) (Only.alloc [] _ (.cells cs T)) (Blk.new _ cs T)
  have h3 := h2.make (Nat.le_refl _) (Only.alloc [] _ (.cells cs T)) (Blk.new _ cs T)
  have h4 := h3.junk (Only.drew [] _)
  have e1 : (w.alloc (.cells cs T)).heap.size = w.heap.size + 1 := by simp
  have e2 : ((w.alloc (.cells cs T)).alloc (.cells cs T)).heap.size = w.heap.size + 1 + 1 := by simp
  rw [e1, e2] at h4
  exact ⟨_, h4⟩

theorem perm_acb {α : Type} (a b c : α) : [a, b, c].Perm [a, c, b] := List.Perm.cons _ (List.Perm.swap _ _ _)
theorem perm_bac {α : Type} (a b c : α) : [a, b, c].Perm [b, a, c] := List.Perm.swap _ _ _
theorem perm_bca {α : Type} (a b c : α) : [a, b, c].Perm [b, c, a] := (perm_bac a b c).trans (perm_acb b a c)
theorem perm_cab {α : Type} (a b c : α) : [a, b, c].Perm [c, a, b] := (perm_acb a b c).trans (perm_bac a c b)
theorem perm_cba {α : Type} (a b c : α) : [a, b, c].Perm [c, b, a] := (perm_cab a b c).trans (perm_acb c a b)

end Go.Proofs.Ytbcdkcepgbegjaa
