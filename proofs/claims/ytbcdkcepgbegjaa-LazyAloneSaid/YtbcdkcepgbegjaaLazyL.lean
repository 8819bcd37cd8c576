/- Three appends in one statement, in whatever order: the region. Conditions: what the region finds. -/
import Derived.Test.YtbcdkcepgbegjaaLazyK
namespace Go.Proofs.Ytbcdkcepgbegjaa
open Go.RowKit

def depB (ops : Array Oper) (i j : Nat) : Bool := (ops[i]?).any fun o => o.after.any fun e => Region.binds .any e && e.on == j
def backB (ops : Array Oper) : Bool := (List.range ops.size).all fun i => (ops[i]?).all fun o => o.after.all fun e => decide (e.on < i)
def bareB (ops : Array Oper) : Bool := (List.range ops.size).all fun i => (ops[i]?).all fun o => o.guard.isNone

theorem dep_bit {ops : Array Oper} {l : Array Bool} {i j : Nat} (h : depB ops i j = true) (hi : i ∈ Region.ready .any ops l) : bit l j = true := by
  obtain ⟨_, o, ho, hall⟩ := mem_ready.1 hi
  unfold depB at h
  rw [ho] at h
  simp only [Option.any_some, Array.any_eq_true', Bool.and_eq_true, beq_iff_eq] at h
  obtain ⟨e, he, hb, rfl⟩ := h
  have h1 := hall e he hb
  unfold bit
  rcases Nat.lt_or_ge e.on l.size with h2 | h2
  · simpa [h2] using h1
  · simp [Array.getElem?_eq_none h2] at h1

theorem bare_of {ops : Array Oper} {i : Nat} {o : Oper} (h : bareB ops = true) (ho : ops[i]? = some o) : o.guard = none := by
  have hi : i < ops.size := (Array.getElem?_eq_some_iff.1 ho).1
  have h1 := List.all_eq_true.1 h i (List.mem_range.2 hi)
  rw [ho] at h1
  simpa using h1

/-- Where every operation waits for earlier ones alone: none can come up: all are done. -/
theorem all_done {ops : Array Oper} {l : Array Bool} (h : backB ops = true) (hs : l.size = ops.size) (hr : Region.ready .any ops l = []) : ∀ (n i : Nat), i < n → bit l i = true
  | 0, i, hi => absurd hi (Nat.not_lt_zero _)
  | n + 1, i, hi => by
    cases hb : bit l i with
    | true => rfl
    | false =>
      exfalso
      have hil : i < ops.size := by
        rcases Nat.lt_or_ge i ops.size with h1 | h1
        · exact h1
        · unfold bit at hb; simp [Array.getElem?_eq_none (show l.size ≤ i by omega)] at hb
      obtain ⟨o, ho⟩ : ∃ o, ops[i]? = some o := ⟨ops[i], by simp [hil]⟩
      have h1 := List.all_eq_true.1 h i (List.mem_range.2 hil)
      rw [ho] at h1
      have hmem : i ∈ Region.ready .any ops l := by
        refine mem_ready.2 ⟨hb, o, ho, fun e he _ => ?_⟩
        simp only [Option.all_some, Array.all_eq_true', decide_eq_true_eq] at h1
        have h2 := h1 e he
        have h3 := all_done h hs hr n e.on (by omega)
        unfold bit at h3
        have h4 : e.on < l.size := by omega
        simpa [h4] using h3
      rw [hr] at hmem
      cases hmem

theorem info_pOne : (Try.prog.info? 29).map (fun i => (i.zero, i.size, i.bytes)) = some (some (.pointer none), 1, 8) := by kernel_rfl

/-- The operations, as facts. -/
structure TriOps (ops : Array Oper) : Prop where
  size : ops.size = 15
  bare : bareB ops = true
  back : backB ops = true
  deps : ([(2, 1), (3, 0), (3, 2), (6, 5), (7, 4), (7, 6), (10, 9), (11, 8), (11, 10), (12, 3), (13, 7), (14, 11)].all fun p => depB ops p.1 p.2) = true
  o0 : (ops[0]?).map (fun o => (o.op, o.dst)) = some (.move (.tmp 7), some 71)
  o1 : (ops[1]?).map (fun o => (o.op, o.dst)) = some (.move (.tmp 14), some 72)
  o2 : (ops[2]?).map (fun o => (o.op, o.dst)) = some (.buildSlice 27 1 #[(0, .tmp 72)], some 73)
  o3 : (ops[3]?).map (fun o => (o.op, o.dst)) = some (.call { callee := .builtin .append, args := #[.tmp 71, .tmp 73], argTypes := #[27, 27] }, some 74)
  o4 : (ops[4]?).map (fun o => (o.op, o.dst)) = some (.move (.tmp 8), some 75)
  o5 : (ops[5]?).map (fun o => (o.op, o.dst)) = some (.move (.tmp 15), some 76)
  o6 : (ops[6]?).map (fun o => (o.op, o.dst)) = some (.buildSlice 27 1 #[(0, .tmp 76)], some 77)
  o7 : (ops[7]?).map (fun o => (o.op, o.dst)) = some (.call { callee := .builtin .append, args := #[.tmp 75, .tmp 77], argTypes := #[27, 27] }, some 78)
  o8 : (ops[8]?).map (fun o => (o.op, o.dst)) = some (.load 27 (.tmp 9), some 79)
  o9 : (ops[9]?).map (fun o => (o.op, o.dst)) = some (.move (.tmp 16), some 80)
  o10 : (ops[10]?).map (fun o => (o.op, o.dst)) = some (.buildSlice 27 1 #[(0, .tmp 80)], some 81)
  o11 : (ops[11]?).map (fun o => (o.op, o.dst)) = some (.call { callee := .builtin .append, args := #[.tmp 79, .tmp 81], argTypes := #[27, 27] }, some 82)
  o12 : (ops[12]?).map (fun o => (o.op, o.dst)) = some (.assign (.tmp 74), some 7)
  o13 : (ops[13]?).map (fun o => (o.op, o.dst)) = some (.assign (.tmp 78), some 8)
  o14 : (ops[14]?).map (fun o => (o.op, o.dst)) = some (.store 27 (.tmp 9) (.tmp 82), none)

theorem op_of {ops : Array Oper} {i : Nat} {p : Op × Option Tmp} (h : (ops[i]?).map (fun o => (o.op, o.dst)) = some p) : ∃ o, ops[i]? = some o ∧ o.op = p.1 ∧ o.dst = p.2 := by
  obtain ⟨o, ho, he⟩ := Option.map_eq_some_iff.1 h
  subst he
  exact ⟨o, ho, rfl, rfl⟩

def triS : List Nat := [71, 72, 73, 74, 75, 76, 77, 78, 79, 80, 81, 82, 7, 8]

/-- What holds while the three are on their way. -/
structure TriJ (W : World) (tv k : Nat) (ps : Nat → PU) (vs : Nat → Value) (Ls : Nat → List Nat) (ns : List (Nat × Array Value × TypeId)) (x y z : Nat) (a0 : Act) (l : Array Bool) (a : Act) (w : World) (ow : Nat → Nat) (v12 v13 v14 u : Value) (L12 L13 L14 : List Nat) (ex : List (Nat × Array Value × TypeId)) : Prop where
  sz : l.size = 15
  fr : Fr a0 triS a
  bun : Bun W.heap.size tv k ow w ps (upU (upU (upU vs 12 v12) 13 v13) 14 v14) (upU (upU (upU Ls 12 L12) 13 L13) 14 L14) u (ns ++ ex)
  old : Only [] W w
  A : Ch l a 0 1 2 3 12 71 72 73 74 (vs 12) (Ls 12) x 29 v12 L12 ex
  B : Ch l a 4 5 6 7 13 75 76 77 78 (vs 13) (Ls 13) y 29 v13 L13 ex
  C : Ch l a 8 9 10 11 14 79 80 81 82 (vs 14) (Ls 14) z 29 v14 L14 ex
  a0 : bit l 12 = false → sl a 7 = vs 12
  a1 : bit l 12 = true → sl a 7 = v12
  b0 : bit l 13 = false → sl a 8 = vs 13
  b1 : bit l 13 = true → sl a 8 = v13
  c0 : bit l 14 = false → u = vs 14
  c1 : bit l 14 = true → u = v14

def TriI (W : World) (tv k : Nat) (ps : Nat → PU) (vs : Nat → Value) (Ls : Nat → List Nat) (ns : List (Nat × Array Value × TypeId)) (x y z : Nat) (a0 : Act) (l : Array Bool) (a : Act) (w : World) : Prop :=
  ∃ ow v12 v13 v14 u L12 L13 L14 ex, TriJ W tv k ps vs Ls ns x y z a0 l a w ow v12 v13 v14 u L12 L13 L14 ex

/-- What the region finds. -/
structure TriH (ops : Array Oper) (a0 : Act) (tv x y z : Nat) (Ls : Nat → List Nat) : Prop where
  hO : TriOps ops
  hz : a0.tmps.size = 369
  h9 : sl a0 9 = ptr tv
  h14 : sl a0 14 = ptr x
  h15 : sl a0 15 = ptr y
  h16 : sl a0 16 = ptr z
  hL : ∀ r, (Ls r).length ≤ 1000

theorem upU_a {α : Type} (f : Nat → α) (a b c a' : α) (q : Nat) : upU (upU (upU (upU f 12 a) 13 b) 14 c) 12 a' q = upU (upU (upU f 12 a') 13 b) 14 c q := by
  unfold upU
  by_cases h1 : q = 12
  · subst h1; simp
  · simp [h1]
theorem upU_b {α : Type} (f : Nat → α) (a b c b' : α) (q : Nat) : upU (upU (upU (upU f 12 a) 13 b) 14 c) 13 b' q = upU (upU (upU f 12 a) 13 b') 14 c q := by
  unfold upU
  by_cases h1 : q = 13
  · subst h1; simp
  · simp [h1]
theorem upU_c {α : Type} (f : Nat → α) (a b c c' : α) (q : Nat) : upU (upU (upU (upU f 12 a) 13 b) 14 c) 14 c' q = upU (upU (upU f 12 a) 13 b) 14 c' q := by
  unfold upU
  by_cases h1 : q = 14
  · subst h1; simp
  · simp [h1]
theorem upU_id {α : Type} (f : Nat → α) : upU (upU (upU f 12 (f 12)) 13 (f 13)) 14 (f 14) = f := by
  funext q
  unfold upU
  by_cases h1 : q = 14
  · subst h1; simp
  · by_cases h2 : q = 13
    · subst h2; simp
    · by_cases h3 : q = 12
      · subst h3; simp
      · simp [h1, h2, h3]

theorem apA : ChAp 0 1 2 3 12 71 72 73 74 := ⟨by omega, by omega⟩
theorem apB : ChAp 4 5 6 7 13 75 76 77 78 := ⟨by omega, by omega⟩
theorem apC : ChAp 8 9 10 11 14 79 80 81 82 := ⟨by omega, by omega⟩

theorem Bun.more {base tv k : Nat} {ow : Nat → Nat} {w : World} {ps : Nat → PU} {vs : Nat → Value} {Ls : Nat → List Nat} {u : Value} {ns ex : List (Nat × Array Value × TypeId)} (h : Bun base tv k ow w ps vs Ls u (ns ++ ex)) : Bun base tv k ow w ps vs Ls u ns := by
  refine ⟨h.units, h.rows, h.var, h.tl, ⟨fun e he => h.news.each e (by simp [he]), h.news.lies.sub (fun b hb => by rw [List.map_append]; exact List.mem_append_left _ hb), ?_⟩⟩
  have := h.news.once
  rw [List.map_append, List.nodup_append] at this
  exact this.1

theorem Bun.app_ex {base tv k : Nat} {ow : Nat → Nat} {w w' : World} {ps : Nat → PU} {vs : Nat → Value} {Ls : Nat → List Nat} {u : Value} {ns : List (Nat × Array Value × TypeId)} (h : Bun base tv k ow w ps vs Ls u ns) (r : Nat) (h1 : 10 ≤ r) (h2 : r ≤ 17) {b : Nat} {v' : Value} (o : Only (vs r).ownBlock.toList w w') (hr : RowO base (fresh ow w r) r w' (es r) v' ((Ls r).map ptr ++ [ptr b])) :
    ∃ ow', Bun base tv k ow' w' ps (upU vs r v') (upU Ls r (Ls r ++ [b])) u ns := ⟨_, h.app r h1 h2 o hr (Ext.fresh _ _ _)⟩

theorem Bun.make_ex {base tv k : Nat} {ow : Nat → Nat} {w w' : World} {ps : Nat → PU} {vs : Nat → Value} {Ls : Nat → List Nat} {u : Value} {ns : List (Nat × Array Value × TypeId)} (h : Bun base tv k ow w ps vs Ls u ns) {b : Nat} {cs : Array Value} {T : TypeId} (hb : w.heap.size ≤ b) (o : Only [] w w') (hB : Blk w' b cs T) : ∃ ow', Bun base tv k ow' w' ps vs Ls u (ns ++ [(b, cs, T)]) := ⟨_, h.make hb o hB⟩

/-- A row one longer, whatever was laid over the rows before. -/
theorem Bun.app' {base tv k : Nat} {ow ow' : Nat → Nat} {w w' : World} {ps : Nat → PU} {vs vs' : Nat → Value} {Ls Ls' : Nat → List Nat} {u : Value} {ns : List (Nat × Array Value × TypeId)} (h : Bun base tv k ow w ps vs Ls u ns) (r : Nat) (h1 : 10 ≤ r) (h2 : r ≤ 17) {b : Nat} {v' : Value} (o : Only (vs r).ownBlock.toList w w') (hr : RowO base ow' r w' (es r) v' ((Ls r).map ptr ++ [ptr b])) (hE : Ext ow ow' w)
    (e1 : ∀ q, upU vs r v' q = vs' q) (e2 : ∀ q, upU Ls r (Ls r ++ [b]) q = Ls' q) : Bun base tv k ow' w' ps vs' Ls' u ns := by
  have := h.app r h1 h2 o hr hE
  rw [show upU vs r v' = vs' from funext e1, show upU Ls r (Ls r ++ [b]) = Ls' from funext e2] at this
  exact this

theorem build_one (b : Nat) (w : World) : (Instr.buildSlice 27 1 #[(0, ptr b)]).run Try.prog w = .ok (.slice (some ⟨w.heap.size, 0, none⟩) 1 1) (w.alloc (.cells #[ptr b] 29)) := by
  unfold ptr
  go_simp

theorem load_one (t : Nat) (v : Value) (w : World) (hc : w.cell? ⟨t, 0, none⟩ = some v) : (Instr.loadAt 27 (ptr t)).run Try.prog w = .ok v w := by
  unfold ptr
  go_simp

theorem store_one (t : Nat) (v : Value) {ad : Option Addr} {n c : Nat} {u : Value} (w : World) (hc : w.cell? ⟨t, 0, none⟩ = some u) (hz : w.frozen? ⟨t, 0, none⟩ = false) (hv : v = .slice ad n c) : (Instr.storeAt 27 (ptr t) v).run Try.prog w = .ok () (w.setCell ⟨t, 0, none⟩ v) := by
  subst hv
  unfold ptr
  go_simp

section
variable {ops : Array Oper} {Q : Exit → Act → World → Prop} {W : World} {tv k : Nat} {ps : Nat → PU} {vs : Nat → Value} {Ls : Nat → List Nat} {ns : List (Nat × Array Value × TypeId)} {x y z : Nat} {a0 : Act} {l : Array Bool} {a : Act} {w : World} {ow : Nat → Nat} {v12 v13 v14 u : Value} {L12 L13 L14 : List Nat} {ex : List (Nat × Array Value × TypeId)}

theorem tri_0 (H : TriH ops a0 tv x y z Ls) (J : TriJ W tv k ps vs Ls ns x y z a0 l a w ow v12 v13 v14 u L12 L13 L14 ex) (hi : 0 ∈ Region.ready .any ops l) : wpOp Try.prog ops Q 0 (TriI W tv k ps vs Ls ns x y z a0 (l.setIfInBounds 0 true)) a w := by
  have hb : bit l 0 = false := (mem_ready.1 hi).1
  obtain ⟨o, ho, hop, hdst⟩ := op_of H.hO.o0
  have hg := bare_of H.hO.bare ho
  have hz0 := H.hz
  have hsz : a.tmps.size = 369 := by rw [J.fr.size, hz0]
  refine wpOp_of ho hg ?_
  have h4 : bit l 12 = false := by
    cases h : bit l 12 with
    | false => rfl
    | true => have h5 := (J.A.c4 (J.A.c5 h)).2.2; rw [hb] at h5; cases h5
  refine wp_move 7 hop ?_
  rw [hdst, J.a0 h4]
  exact ⟨ow, v12, v13, v14, u, L12, L13, L14, ex, by simp [J.sz], J.fr.put (by decide) (by omega) _, J.bun, J.old, J.A.go0 apA hb (by omega), (J.B.other hb (by omega) (by decide) (by decide) (by decide) (by decide) (by decide) (by decide) (by decide) (by decide) (by decide)), (J.C.other hb (by omega) (by decide) (by decide) (by decide) (by decide) (by decide) (by decide) (by decide) (by decide) (by decide)), (by rw [bit_set l 0 12 hb, if_neg (by decide), sl_put 7 (by omega), if_neg (by decide)]; exact J.a0), (by rw [bit_set l 0 12 hb, if_neg (by decide), sl_put 7 (by omega), if_neg (by decide)]; exact J.a1), (by rw [bit_set l 0 13 hb, if_neg (by decide), sl_put 8 (by omega), if_neg (by decide)]; exact J.b0), (by rw [bit_set l 0 13 hb, if_neg (by decide), sl_put 8 (by omega), if_neg (by decide)]; exact J.b1), (by rw [bit_set l 0 14 hb, if_neg (by decide)]; exact J.c0), (by rw [bit_set l 0 14 hb, if_neg (by decide)]; exact J.c1)⟩

theorem tri_1 (H : TriH ops a0 tv x y z Ls) (J : TriJ W tv k ps vs Ls ns x y z a0 l a w ow v12 v13 v14 u L12 L13 L14 ex) (hi : 1 ∈ Region.ready .any ops l) : wpOp Try.prog ops Q 1 (TriI W tv k ps vs Ls ns x y z a0 (l.setIfInBounds 1 true)) a w := by
  have hb : bit l 1 = false := (mem_ready.1 hi).1
  obtain ⟨o, ho, hop, hdst⟩ := op_of H.hO.o1
  have hg := bare_of H.hO.bare ho
  have hz0 := H.hz
  have hsz : a.tmps.size = 369 := by rw [J.fr.size, hz0]
  refine wpOp_of ho hg ?_
  refine wp_move 14 hop ?_
  rw [hdst, (J.fr.same 14 (by decide)).trans H.h14]
  exact ⟨ow, v12, v13, v14, u, L12, L13, L14, ex, by simp [J.sz], J.fr.put (by decide) (by omega) _, J.bun, J.old, J.A.go1 apA hb (by omega), (J.B.other hb (by omega) (by decide) (by decide) (by decide) (by decide) (by decide) (by decide) (by decide) (by decide) (by decide)), (J.C.other hb (by omega) (by decide) (by decide) (by decide) (by decide) (by decide) (by decide) (by decide) (by decide) (by decide)), (by rw [bit_set l 1 12 hb, if_neg (by decide), sl_put 7 (by omega), if_neg (by decide)]; exact J.a0), (by rw [bit_set l 1 12 hb, if_neg (by decide), sl_put 7 (by omega), if_neg (by decide)]; exact J.a1), (by rw [bit_set l 1 13 hb, if_neg (by decide), sl_put 8 (by omega), if_neg (by decide)]; exact J.b0), (by rw [bit_set l 1 13 hb, if_neg (by decide), sl_put 8 (by omega), if_neg (by decide)]; exact J.b1), (by rw [bit_set l 1 14 hb, if_neg (by decide)]; exact J.c0), (by rw [bit_set l 1 14 hb, if_neg (by decide)]; exact J.c1)⟩

theorem tri_2 (H : TriH ops a0 tv x y z Ls) (J : TriJ W tv k ps vs Ls ns x y z a0 l a w ow v12 v13 v14 u L12 L13 L14 ex) (hi : 2 ∈ Region.ready .any ops l) : wpOp Try.prog ops Q 2 (TriI W tv k ps vs Ls ns x y z a0 (l.setIfInBounds 2 true)) a w := by
  have hb : bit l 2 = false := (mem_ready.1 hi).1
  obtain ⟨o, ho, hop, hdst⟩ := op_of H.hO.o2
  have hg := bare_of H.hO.bare ho
  have hz0 := H.hz
  have hsz : a.tmps.size = 369 := by rw [J.fr.size, hz0]
  refine wpOp_of ho hg ?_
  have h1 : bit l 1 = true := dep_bit (List.all_eq_true.1 H.hO.deps (2, 1) (by simp)) hi
  refine wp_build 72 27 (ptr x) _ hop (J.A.c1 h1) (build_one _ _) ?_
  rw [hdst]
  have hB := J.bun.make (Nat.le_refl _) (Only.alloc [] w (.cells #[ptr x] 29)) (Blk.new w #[ptr x] 29)
  rw [List.append_assoc] at hB
  have hm : ∀ e, e ∈ ex → e ∈ ex ++ [(w.heap.size, #[ptr x], 29)] := fun e he => by simp [he]
  exact ⟨_, v12, v13, v14, u, L12, L13, L14, _, by simp [J.sz], J.fr.put (by decide) (by omega) _, hB, J.old.trans (Only.alloc _ _ _), J.A.go2 apA hb (by omega) _, ((J.B.more hm).other hb (by omega) (by decide) (by decide) (by decide) (by decide) (by decide) (by decide) (by decide) (by decide) (by decide)), ((J.C.more hm).other hb (by omega) (by decide) (by decide) (by decide) (by decide) (by decide) (by decide) (by decide) (by decide) (by decide)), (by rw [bit_set l 2 12 hb, if_neg (by decide), sl_put 7 (by omega), if_neg (by decide)]; exact J.a0), (by rw [bit_set l 2 12 hb, if_neg (by decide), sl_put 7 (by omega), if_neg (by decide)]; exact J.a1), (by rw [bit_set l 2 13 hb, if_neg (by decide), sl_put 8 (by omega), if_neg (by decide)]; exact J.b0), (by rw [bit_set l 2 13 hb, if_neg (by decide), sl_put 8 (by omega), if_neg (by decide)]; exact J.b1), (by rw [bit_set l 2 14 hb, if_neg (by decide)]; exact J.c0), (by rw [bit_set l 2 14 hb, if_neg (by decide)]; exact J.c1)⟩

theorem tri_3 (H : TriH ops a0 tv x y z Ls) (J : TriJ W tv k ps vs Ls ns x y z a0 l a w ow v12 v13 v14 u L12 L13 L14 ex) (hi : 3 ∈ Region.ready .any ops l) : wpOp Try.prog ops Q 3 (TriI W tv k ps vs Ls ns x y z a0 (l.setIfInBounds 3 true)) a w := by
  have hb : bit l 3 = false := (mem_ready.1 hi).1
  obtain ⟨o, ho, hop, hdst⟩ := op_of H.hO.o3
  have hg := bare_of H.hO.bare ho
  have hz0 := H.hz
  have hsz : a.tmps.size = 369 := by rw [J.fr.size, hz0]
  refine wpOp_of ho hg ?_
  have h0 : bit l 0 = true := dep_bit (List.all_eq_true.1 H.hO.deps (3, 0) (by simp)) hi
  have h2 : bit l 2 = true := dep_bit (List.all_eq_true.1 H.hO.deps (3, 2) (by simp)) hi
  obtain ⟨t, ht, hmem⟩ := J.A.c2 h2
  obtain ⟨hv, hl⟩ := J.A.c3 hb
  have ht1 := J.bun.news.each (t, #[ptr x], 29) (by simp [hmem])
  obtain ⟨i0, hi0, hy0, hy1, hy2⟩ := info_parts info_pOne
  have hr : RowO W.heap.size ow 12 w (es 12) (vs 12) ((Ls 12).map ptr) := by
    have := J.bun.rows 12 (by decide) (by decide)
    exact hv ▸ hl ▸ this
  have hlen := H.hL 12
  refine RowO.append (.tmp 71) (.tmp 73) 27 hop W.heap.size ow 12 29 i0 _ 8 Try.underlying27 hi0 hy0 hy1 hy2 rfl (vs 12) _ (J.A.c0 h0) hr ⟨t, 0, none⟩ 1 (ptr x) ht (ht1.cell 0 rfl) rfl (by rw [List.length_map]; unfold maxLen; omega) (by rw [List.length_map]; omega) J.bun.low ?_
  intro v' w' hr' hO'
  rw [hdst]
  have hB := J.bun.app' (vs' := upU (upU (upU vs 12 v') 13 v13) 14 v14) (Ls' := upU (upU (upU Ls 12 (L12 ++ [x])) 13 L13) 14 L14) (ow' := fresh ow w 12) (v' := v') (b := x) 12 (by decide) (by decide) (by have := hO'; rw [← hv] at this; exact this) (by have := hr'; rw [← hl] at this; exact this) (Ext.fresh _ _ _) (upU_a _ _ _ _ _) (upU_a _ _ _ _ _)
  exact ⟨_, v', v13, v14, u, (L12 ++ [x]), L13, L14, ex, by simp [J.sz], J.fr.put (by decide) (by omega) _, hB, J.old.past hO' (fun b hb' => Or.inr (hr.lies b hb').1), J.A.go3 apA hb h0 (by omega) _, (J.B.other hb (by omega) (by decide) (by decide) (by decide) (by decide) (by decide) (by decide) (by decide) (by decide) (by decide)), (J.C.other hb (by omega) (by decide) (by decide) (by decide) (by decide) (by decide) (by decide) (by decide) (by decide) (by decide)), (by rw [bit_set l 3 12 hb, if_neg (by decide), sl_put 7 (by omega), if_neg (by decide)]; exact J.a0), (by rw [bit_set l 3 12 hb, if_neg (by decide)]; exact fun h => by have := J.A.c5 h; rw [hb] at this; cases this), (by rw [bit_set l 3 13 hb, if_neg (by decide), sl_put 8 (by omega), if_neg (by decide)]; exact J.b0), (by rw [bit_set l 3 13 hb, if_neg (by decide), sl_put 8 (by omega), if_neg (by decide)]; exact J.b1), (by rw [bit_set l 3 14 hb, if_neg (by decide)]; exact J.c0), (by rw [bit_set l 3 14 hb, if_neg (by decide)]; exact J.c1)⟩

theorem tri_12 (H : TriH ops a0 tv x y z Ls) (J : TriJ W tv k ps vs Ls ns x y z a0 l a w ow v12 v13 v14 u L12 L13 L14 ex) (hi : 12 ∈ Region.ready .any ops l) : wpOp Try.prog ops Q 12 (TriI W tv k ps vs Ls ns x y z a0 (l.setIfInBounds 12 true)) a w := by
  have hb : bit l 12 = false := (mem_ready.1 hi).1
  obtain ⟨o, ho, hop, hdst⟩ := op_of H.hO.o12
  have hg := bare_of H.hO.bare ho
  have hz0 := H.hz
  have hsz : a.tmps.size = 369 := by rw [J.fr.size, hz0]
  refine wpOp_of ho hg ?_
  have h3 : bit l 3 = true := dep_bit (List.all_eq_true.1 H.hO.deps (12, 3) (by simp)) hi
  refine wp_assign 74 hop ?_
  rw [hdst, (J.A.c4 h3).1]
  exact ⟨ow, v12, v13, v14, u, L12, L13, L14, ex, by simp [J.sz], J.fr.put (by decide) (by omega) _, J.bun, J.old, J.A.go4 apA hb h3 (by omega) (by decide) (by decide) (by decide) (by decide), (J.B.other hb (by omega) (by decide) (by decide) (by decide) (by decide) (by decide) (by decide) (by decide) (by decide) (by decide)), (J.C.other hb (by omega) (by decide) (by decide) (by decide) (by decide) (by decide) (by decide) (by decide) (by decide) (by decide)), (by rw [bit_set l 12 12 hb, if_pos rfl]; exact fun h => by cases h), (fun _ => by rw [sl_put 7 (by omega), if_pos rfl]), (by rw [bit_set l 12 13 hb, if_neg (by decide), sl_put 8 (by omega), if_neg (by decide)]; exact J.b0), (by rw [bit_set l 12 13 hb, if_neg (by decide), sl_put 8 (by omega), if_neg (by decide)]; exact J.b1), (by rw [bit_set l 12 14 hb, if_neg (by decide)]; exact J.c0), (by rw [bit_set l 12 14 hb, if_neg (by decide)]; exact J.c1)⟩

theorem tri_4 (H : TriH ops a0 tv x y z Ls) (J : TriJ W tv k ps vs Ls ns x y z a0 l a w ow v12 v13 v14 u L12 L13 L14 ex) (hi : 4 ∈ Region.ready .any ops l) : wpOp Try.prog ops Q 4 (TriI W tv k ps vs Ls ns x y z a0 (l.setIfInBounds 4 true)) a w := by
  have hb : bit l 4 = false := (mem_ready.1 hi).1
  obtain ⟨o, ho, hop, hdst⟩ := op_of H.hO.o4
  have hg := bare_of H.hO.bare ho
  have hz0 := H.hz
  have hsz : a.tmps.size = 369 := by rw [J.fr.size, hz0]
  refine wpOp_of ho hg ?_
  have h4 : bit l 13 = false := by
    cases h : bit l 13 with
    | false => rfl
    | true => have h5 := (J.B.c4 (J.B.c5 h)).2.2; rw [hb] at h5; cases h5
  refine wp_move 8 hop ?_
  rw [hdst, J.b0 h4]
  exact ⟨ow, v12, v13, v14, u, L12, L13, L14, ex, by simp [J.sz], J.fr.put (by decide) (by omega) _, J.bun, J.old, (J.A.other hb (by omega) (by decide) (by decide) (by decide) (by decide) (by decide) (by decide) (by decide) (by decide) (by decide)), J.B.go0 apB hb (by omega), (J.C.other hb (by omega) (by decide) (by decide) (by decide) (by decide) (by decide) (by decide) (by decide) (by decide) (by decide)), (by rw [bit_set l 4 12 hb, if_neg (by decide), sl_put 7 (by omega), if_neg (by decide)]; exact J.a0), (by rw [bit_set l 4 12 hb, if_neg (by decide), sl_put 7 (by omega), if_neg (by decide)]; exact J.a1), (by rw [bit_set l 4 13 hb, if_neg (by decide), sl_put 8 (by omega), if_neg (by decide)]; exact J.b0), (by rw [bit_set l 4 13 hb, if_neg (by decide), sl_put 8 (by omega), if_neg (by decide)]; exact J.b1), (by rw [bit_set l 4 14 hb, if_neg (by decide)]; exact J.c0), (by rw [bit_set l 4 14 hb, if_neg (by decide)]; exact J.c1)⟩

theorem tri_5 (H : TriH ops a0 tv x y z Ls) (J : TriJ W tv k ps vs Ls ns x y z a0 l a w ow v12 v13 v14 u L12 L13 L14 ex) (hi : 5 ∈ Region.ready .any ops l) : wpOp Try.prog ops Q 5 (TriI W tv k ps vs Ls ns x y z a0 (l.setIfInBounds 5 true)) a w := by
  have hb : bit l 5 = false := (mem_ready.1 hi).1
  obtain ⟨o, ho, hop, hdst⟩ := op_of H.hO.o5
  have hg := bare_of H.hO.bare ho
  have hz0 := H.hz
  have hsz : a.tmps.size = 369 := by rw [J.fr.size, hz0]
  refine wpOp_of ho hg ?_
  refine wp_move 15 hop ?_
  rw [hdst, (J.fr.same 15 (by decide)).trans H.h15]
  exact ⟨ow, v12, v13, v14, u, L12, L13, L14, ex, by simp [J.sz], J.fr.put (by decide) (by omega) _, J.bun, J.old, (J.A.other hb (by omega) (by decide) (by decide) (by decide) (by decide) (by decide) (by decide) (by decide) (by decide) (by decide)), J.B.go1 apB hb (by omega), (J.C.other hb (by omega) (by decide) (by decide) (by decide) (by decide) (by decide) (by decide) (by decide) (by decide) (by decide)), (by rw [bit_set l 5 12 hb, if_neg (by decide), sl_put 7 (by omega), if_neg (by decide)]; exact J.a0), (by rw [bit_set l 5 12 hb, if_neg (by decide), sl_put 7 (by omega), if_neg (by decide)]; exact J.a1), (by rw [bit_set l 5 13 hb, if_neg (by decide), sl_put 8 (by omega), if_neg (by decide)]; exact J.b0), (by rw [bit_set l 5 13 hb, if_neg (by decide), sl_put 8 (by omega), if_neg (by decide)]; exact J.b1), (by rw [bit_set l 5 14 hb, if_neg (by decide)]; exact J.c0), (by rw [bit_set l 5 14 hb, if_neg (by decide)]; exact J.c1)⟩

theorem tri_6 (H : TriH ops a0 tv x y z Ls) (J : TriJ W tv k ps vs Ls ns x y z a0 l a w ow v12 v13 v14 u L12 L13 L14 ex) (hi : 6 ∈ Region.ready .any ops l) : wpOp Try.prog ops Q 6 (TriI W tv k ps vs Ls ns x y z a0 (l.setIfInBounds 6 true)) a w := by
  have hb : bit l 6 = false := (mem_ready.1 hi).1
  obtain ⟨o, ho, hop, hdst⟩ := op_of H.hO.o6
  have hg := bare_of H.hO.bare ho
  have hz0 := H.hz
  have hsz : a.tmps.size = 369 := by rw [J.fr.size, hz0]
  refine wpOp_of ho hg ?_
  have h1 : bit l 5 = true := dep_bit (List.all_eq_true.1 H.hO.deps (6, 5) (by simp)) hi
  refine wp_build 76 27 (ptr y) _ hop (J.B.c1 h1) (build_one _ _) ?_
  rw [hdst]
  have hB := J.bun.make (Nat.le_refl _) (Only.alloc [] w (.cells #[ptr y] 29)) (Blk.new w #[ptr y] 29)
  rw [List.append_assoc] at hB
  have hm : ∀ e, e ∈ ex → e ∈ ex ++ [(w.heap.size, #[ptr y], 29)] := fun e he => by simp [he]
  exact ⟨_, v12, v13, v14, u, L12, L13, L14, _, by simp [J.sz], J.fr.put (by decide) (by omega) _, hB, J.old.trans (Only.alloc _ _ _), ((J.A.more hm).other hb (by omega) (by decide) (by decide) (by decide) (by decide) (by decide) (by decide) (by decide) (by decide) (by decide)), J.B.go2 apB hb (by omega) _, ((J.C.more hm).other hb (by omega) (by decide) (by decide) (by decide) (by decide) (by decide) (by decide) (by decide) (by decide) (by decide)), (by rw [bit_set l 6 12 hb, if_neg (by decide), sl_put 7 (by omega), if_neg (by decide)]; exact J.a0), (by rw [bit_set l 6 12 hb, if_neg (by decide), sl_put 7 (by omega), if_neg (by decide)]; exact J.a1), (by rw [bit_set l 6 13 hb, if_neg (by decide), sl_put 8 (by omega), if_neg (by decide)]; exact J.b0), (by rw [bit_set l 6 13 hb, if_neg (by decide), sl_put 8 (by omega), if_neg (by decide)]; exact J.b1), (by rw [bit_set l 6 14 hb, if_neg (by decide)]; exact J.c0), (by rw [bit_set l 6 14 hb, if_neg (by decide)]; exact J.c1)⟩

theorem tri_7 (H : TriH ops a0 tv x y z Ls) (J : TriJ W tv k ps vs Ls ns x y z a0 l a w ow v12 v13 v14 u L12 L13 L14 ex) (hi : 7 ∈ Region.ready .any ops l) : wpOp Try.prog ops Q 7 (TriI W tv k ps vs Ls ns x y z a0 (l.setIfInBounds 7 true)) a w := by
  have hb : bit l 7 = false := (mem_ready.1 hi).1
  obtain ⟨o, ho, hop, hdst⟩ := op_of H.hO.o7
  have hg := bare_of H.hO.bare ho
  have hz0 := H.hz
  have hsz : a.tmps.size = 369 := by rw [J.fr.size, hz0]
  refine wpOp_of ho hg ?_
  have h0 : bit l 4 = true := dep_bit (List.all_eq_true.1 H.hO.deps (7, 4) (by simp)) hi
  have h2 : bit l 6 = true := dep_bit (List.all_eq_true.1 H.hO.deps (7, 6) (by simp)) hi
  obtain ⟨t, ht, hmem⟩ := J.B.c2 h2
  obtain ⟨hv, hl⟩ := J.B.c3 hb
  have ht1 := J.bun.news.each (t, #[ptr y], 29) (by simp [hmem])
  obtain ⟨i0, hi0, hy0, hy1, hy2⟩ := info_parts info_pOne
  have hr : RowO W.heap.size ow 13 w (es 13) (vs 13) ((Ls 13).map ptr) := by
    have := J.bun.rows 13 (by decide) (by decide)
    exact hv ▸ hl ▸ this
  have hlen := H.hL 13
  refine RowO.append (.tmp 75) (.tmp 77) 27 hop W.heap.size ow 13 29 i0 _ 8 Try.underlying27 hi0 hy0 hy1 hy2 rfl (vs 13) _ (J.B.c0 h0) hr ⟨t, 0, none⟩ 1 (ptr y) ht (ht1.cell 0 rfl) rfl (by rw [List.length_map]; unfold maxLen; omega) (by rw [List.length_map]; omega) J.bun.low ?_
  intro v' w' hr' hO'
  rw [hdst]
  have hB := J.bun.app' (vs' := upU (upU (upU vs 12 v12) 13 v') 14 v14) (Ls' := upU (upU (upU Ls 12 L12) 13 (L13 ++ [y])) 14 L14) (ow' := fresh ow w 13) (v' := v') (b := y) 13 (by decide) (by decide) (by have := hO'; rw [← hv] at this; exact this) (by have := hr'; rw [← hl] at this; exact this) (Ext.fresh _ _ _) (upU_b _ _ _ _ _) (upU_b _ _ _ _ _)
  exact ⟨_, v12, v', v14, u, L12, (L13 ++ [y]), L14, ex, by simp [J.sz], J.fr.put (by decide) (by omega) _, hB, J.old.past hO' (fun b hb' => Or.inr (hr.lies b hb').1), (J.A.other hb (by omega) (by decide) (by decide) (by decide) (by decide) (by decide) (by decide) (by decide) (by decide) (by decide)), J.B.go3 apB hb h0 (by omega) _, (J.C.other hb (by omega) (by decide) (by decide) (by decide) (by decide) (by decide) (by decide) (by decide) (by decide) (by decide)), (by rw [bit_set l 7 12 hb, if_neg (by decide), sl_put 7 (by omega), if_neg (by decide)]; exact J.a0), (by rw [bit_set l 7 12 hb, if_neg (by decide), sl_put 7 (by omega), if_neg (by decide)]; exact J.a1), (by rw [bit_set l 7 13 hb, if_neg (by decide), sl_put 8 (by omega), if_neg (by decide)]; exact J.b0), (by rw [bit_set l 7 13 hb, if_neg (by decide)]; exact fun h => by have := J.B.c5 h; rw [hb] at this; cases this), (by rw [bit_set l 7 14 hb, if_neg (by decide)]; exact J.c0), (by rw [bit_set l 7 14 hb, if_neg (by decide)]; exact J.c1)⟩

theorem tri_13 (H : TriH ops a0 tv x y z Ls) (J : TriJ W tv k ps vs Ls ns x y z a0 l a w ow v12 v13 v14 u L12 L13 L14 ex) (hi : 13 ∈ Region.ready .any ops l) : wpOp Try.prog ops Q 13 (TriI W tv k ps vs Ls ns x y z a0 (l.setIfInBounds 13 true)) a w := by
  have hb : bit l 13 = false := (mem_ready.1 hi).1
  obtain ⟨o, ho, hop, hdst⟩ := op_of H.hO.o13
  have hg := bare_of H.hO.bare ho
  have hz0 := H.hz
  have hsz : a.tmps.size = 369 := by rw [J.fr.size, hz0]
  refine wpOp_of ho hg ?_
  have h3 : bit l 7 = true := dep_bit (List.all_eq_true.1 H.hO.deps (13, 7) (by simp)) hi
  refine wp_assign 78 hop ?_
  rw [hdst, (J.B.c4 h3).1]
  exact ⟨ow, v12, v13, v14, u, L12, L13, L14, ex, by simp [J.sz], J.fr.put (by decide) (by omega) _, J.bun, J.old, (J.A.other hb (by omega) (by decide) (by decide) (by decide) (by decide) (by decide) (by decide) (by decide) (by decide) (by decide)), J.B.go4 apB hb h3 (by omega) (by decide) (by decide) (by decide) (by decide), (J.C.other hb (by omega) (by decide) (by decide) (by decide) (by decide) (by decide) (by decide) (by decide) (by decide) (by decide)), (by rw [bit_set l 13 12 hb, if_neg (by decide), sl_put 7 (by omega), if_neg (by decide)]; exact J.a0), (by rw [bit_set l 13 12 hb, if_neg (by decide), sl_put 7 (by omega), if_neg (by decide)]; exact J.a1), (by rw [bit_set l 13 13 hb, if_pos rfl]; exact fun h => by cases h), (fun _ => by rw [sl_put 8 (by omega), if_pos rfl]), (by rw [bit_set l 13 14 hb, if_neg (by decide)]; exact J.c0), (by rw [bit_set l 13 14 hb, if_neg (by decide)]; exact J.c1)⟩

theorem tri_8 (H : TriH ops a0 tv x y z Ls) (J : TriJ W tv k ps vs Ls ns x y z a0 l a w ow v12 v13 v14 u L12 L13 L14 ex) (hi : 8 ∈ Region.ready .any ops l) : wpOp Try.prog ops Q 8 (TriI W tv k ps vs Ls ns x y z a0 (l.setIfInBounds 8 true)) a w := by
  have hb : bit l 8 = false := (mem_ready.1 hi).1
  obtain ⟨o, ho, hop, hdst⟩ := op_of H.hO.o8
  have hg := bare_of H.hO.bare ho
  have hz0 := H.hz
  have hsz : a.tmps.size = 369 := by rw [J.fr.size, hz0]
  refine wpOp_of ho hg ?_
  have h4 : bit l 14 = false := by
    cases h : bit l 14 with
    | false => rfl
    | true => have h5 := (J.C.c4 (J.C.c5 h)).2.2; rw [hb] at h5; cases h5
  have hs9 : sl a 9 = ptr tv := (J.fr.same 9 (by decide)).trans H.h9
  refine wp_load 9 27 (ptr tv) (vs 14) hop hs9 (load_one tv (vs 14) w (by rw [← J.c0 h4]; exact J.bun.var.cell 0 rfl)) ?_
  rw [hdst]
  exact ⟨ow, v12, v13, v14, u, L12, L13, L14, ex, by simp [J.sz], J.fr.put (by decide) (by omega) _, J.bun, J.old, (J.A.other hb (by omega) (by decide) (by decide) (by decide) (by decide) (by decide) (by decide) (by decide) (by decide) (by decide)), (J.B.other hb (by omega) (by decide) (by decide) (by decide) (by decide) (by decide) (by decide) (by decide) (by decide) (by decide)), J.C.go0 apC hb (by omega), (by rw [bit_set l 8 12 hb, if_neg (by decide), sl_put 7 (by omega), if_neg (by decide)]; exact J.a0), (by rw [bit_set l 8 12 hb, if_neg (by decide), sl_put 7 (by omega), if_neg (by decide)]; exact J.a1), (by rw [bit_set l 8 13 hb, if_neg (by decide), sl_put 8 (by omega), if_neg (by decide)]; exact J.b0), (by rw [bit_set l 8 13 hb, if_neg (by decide), sl_put 8 (by omega), if_neg (by decide)]; exact J.b1), (by rw [bit_set l 8 14 hb, if_neg (by decide)]; exact J.c0), (by rw [bit_set l 8 14 hb, if_neg (by decide)]; exact J.c1)⟩

theorem tri_9 (H : TriH ops a0 tv x y z Ls) (J : TriJ W tv k ps vs Ls ns x y z a0 l a w ow v12 v13 v14 u L12 L13 L14 ex) (hi : 9 ∈ Region.ready .any ops l) : wpOp Try.prog ops Q 9 (TriI W tv k ps vs Ls ns x y z a0 (l.setIfInBounds 9 true)) a w := by
  have hb : bit l 9 = false := (mem_ready.1 hi).1
  obtain ⟨o, ho, hop, hdst⟩ := op_of H.hO.o9
  have hg := bare_of H.hO.bare ho
  have hz0 := H.hz
  have hsz : a.tmps.size = 369 := by rw [J.fr.size, hz0]
  refine wpOp_of ho hg ?_
  refine wp_move 16 hop ?_
  rw [hdst, (J.fr.same 16 (by decide)).trans H.h16]
  exact ⟨ow, v12, v13, v14, u, L12, L13, L14, ex, by simp [J.sz], J.fr.put (by decide) (by omega) _, J.bun, J.old, (J.A.other hb (by omega) (by decide) (by decide) (by decide) (by decide) (by decide) (by decide) (by decide) (by decide) (by decide)), (J.B.other hb (by omega) (by decide) (by decide) (by decide) (by decide) (by decide) (by decide) (by decide) (by decide) (by decide)), J.C.go1 apC hb (by omega), (by rw [bit_set l 9 12 hb, if_neg (by decide), sl_put 7 (by omega), if_neg (by decide)]; exact J.a0), (by rw [bit_set l 9 12 hb, if_neg (by decide), sl_put 7 (by omega), if_neg (by decide)]; exact J.a1), (by rw [bit_set l 9 13 hb, if_neg (by decide), sl_put 8 (by omega), if_neg (by decide)]; exact J.b0), (by rw [bit_set l 9 13 hb, if_neg (by decide), sl_put 8 (by omega), if_neg (by decide)]; exact J.b1), (by rw [bit_set l 9 14 hb, if_neg (by decide)]; exact J.c0), (by rw [bit_set l 9 14 hb, if_neg (by decide)]; exact J.c1)⟩

theorem tri_10 (H : TriH ops a0 tv x y z Ls) (J : TriJ W tv k ps vs Ls ns x y z a0 l a w ow v12 v13 v14 u L12 L13 L14 ex) (hi : 10 ∈ Region.ready .any ops l) : wpOp Try.prog ops Q 10 (TriI W tv k ps vs Ls ns x y z a0 (l.setIfInBounds 10 true)) a w := by
  have hb : bit l 10 = false := (mem_ready.1 hi).1
  obtain ⟨o, ho, hop, hdst⟩ := op_of H.hO.o10
  have hg := bare_of H.hO.bare ho
  have hz0 := H.hz
  have hsz : a.tmps.size = 369 := by rw [J.fr.size, hz0]
  refine wpOp_of ho hg ?_
  have h1 : bit l 9 = true := dep_bit (List.all_eq_true.1 H.hO.deps (10, 9) (by simp)) hi
  refine wp_build 80 27 (ptr z) _ hop (J.C.c1 h1) (build_one _ _) ?_
  rw [hdst]
  have hB := J.bun.make (Nat.le_refl _) (Only.alloc [] w (.cells #[ptr z] 29)) (Blk.new w #[ptr z] 29)
  rw [List.append_assoc] at hB
  have hm : ∀ e, e ∈ ex → e ∈ ex ++ [(w.heap.size, #[ptr z], 29)] := fun e he => by simp [he]
  exact ⟨_, v12, v13, v14, u, L12, L13, L14, _, by simp [J.sz], J.fr.put (by decide) (by omega) _, hB, J.old.trans (Only.alloc _ _ _), ((J.A.more hm).other hb (by omega) (by decide) (by decide) (by decide) (by decide) (by decide) (by decide) (by decide) (by decide) (by decide)), ((J.B.more hm).other hb (by omega) (by decide) (by decide) (by decide) (by decide) (by decide) (by decide) (by decide) (by decide) (by decide)), J.C.go2 apC hb (by omega) _, (by rw [bit_set l 10 12 hb, if_neg (by decide), sl_put 7 (by omega), if_neg (by decide)]; exact J.a0), (by rw [bit_set l 10 12 hb, if_neg (by decide), sl_put 7 (by omega), if_neg (by decide)]; exact J.a1), (by rw [bit_set l 10 13 hb, if_neg (by decide), sl_put 8 (by omega), if_neg (by decide)]; exact J.b0), (by rw [bit_set l 10 13 hb, if_neg (by decide), sl_put 8 (by omega), if_neg (by decide)]; exact J.b1), (by rw [bit_set l 10 14 hb, if_neg (by decide)]; exact J.c0), (by rw [bit_set l 10 14 hb, if_neg (by decide)]; exact J.c1)⟩

theorem tri_11 (H : TriH ops a0 tv x y z Ls) (J : TriJ W tv k ps vs Ls ns x y z a0 l a w ow v12 v13 v14 u L12 L13 L14 ex) (hi : 11 ∈ Region.ready .any ops l) : wpOp Try.prog ops Q 11 (TriI W tv k ps vs Ls ns x y z a0 (l.setIfInBounds 11 true)) a w := by
  have hb : bit l 11 = false := (mem_ready.1 hi).1
  obtain ⟨o, ho, hop, hdst⟩ := op_of H.hO.o11
  have hg := bare_of H.hO.bare ho
  have hz0 := H.hz
  have hsz : a.tmps.size = 369 := by rw [J.fr.size, hz0]
  refine wpOp_of ho hg ?_
  have h0 : bit l 8 = true := dep_bit (List.all_eq_true.1 H.hO.deps (11, 8) (by simp)) hi
  have h2 : bit l 10 = true := dep_bit (List.all_eq_true.1 H.hO.deps (11, 10) (by simp)) hi
  obtain ⟨t, ht, hmem⟩ := J.C.c2 h2
  obtain ⟨hv, hl⟩ := J.C.c3 hb
  have ht1 := J.bun.news.each (t, #[ptr z], 29) (by simp [hmem])
  obtain ⟨i0, hi0, hy0, hy1, hy2⟩ := info_parts info_pOne
  have hr : RowO W.heap.size ow 14 w (es 14) (vs 14) ((Ls 14).map ptr) := by
    have := J.bun.rows 14 (by decide) (by decide)
    exact hv ▸ hl ▸ this
  have hlen := H.hL 14
  refine RowO.append (.tmp 79) (.tmp 81) 27 hop W.heap.size ow 14 29 i0 _ 8 Try.underlying27 hi0 hy0 hy1 hy2 rfl (vs 14) _ (J.C.c0 h0) hr ⟨t, 0, none⟩ 1 (ptr z) ht (ht1.cell 0 rfl) rfl (by rw [List.length_map]; unfold maxLen; omega) (by rw [List.length_map]; omega) J.bun.low ?_
  intro v' w' hr' hO'
  rw [hdst]
  have hB := J.bun.app' (vs' := upU (upU (upU vs 12 v12) 13 v13) 14 v') (Ls' := upU (upU (upU Ls 12 L12) 13 L13) 14 (L14 ++ [z])) (ow' := fresh ow w 14) (v' := v') (b := z) 14 (by decide) (by decide) (by have := hO'; rw [← hv] at this; exact this) (by have := hr'; rw [← hl] at this; exact this) (Ext.fresh _ _ _) (upU_c _ _ _ _ _) (upU_c _ _ _ _ _)
  exact ⟨_, v12, v13, v', u, L12, L13, (L14 ++ [z]), ex, by simp [J.sz], J.fr.put (by decide) (by omega) _, hB, J.old.past hO' (fun b hb' => Or.inr (hr.lies b hb').1), (J.A.other hb (by omega) (by decide) (by decide) (by decide) (by decide) (by decide) (by decide) (by decide) (by decide) (by decide)), (J.B.other hb (by omega) (by decide) (by decide) (by decide) (by decide) (by decide) (by decide) (by decide) (by decide) (by decide)), J.C.go3 apC hb h0 (by omega) _, (by rw [bit_set l 11 12 hb, if_neg (by decide), sl_put 7 (by omega), if_neg (by decide)]; exact J.a0), (by rw [bit_set l 11 12 hb, if_neg (by decide), sl_put 7 (by omega), if_neg (by decide)]; exact J.a1), (by rw [bit_set l 11 13 hb, if_neg (by decide), sl_put 8 (by omega), if_neg (by decide)]; exact J.b0), (by rw [bit_set l 11 13 hb, if_neg (by decide), sl_put 8 (by omega), if_neg (by decide)]; exact J.b1), (by rw [bit_set l 11 14 hb, if_neg (by decide)]; exact J.c0), (by rw [bit_set l 11 14 hb, if_neg (by decide)]; exact fun h => by have := J.C.c5 h; rw [hb] at this; cases this)⟩

theorem tri_14 (H : TriH ops a0 tv x y z Ls) (J : TriJ W tv k ps vs Ls ns x y z a0 l a w ow v12 v13 v14 u L12 L13 L14 ex) (hi : 14 ∈ Region.ready .any ops l) : wpOp Try.prog ops Q 14 (TriI W tv k ps vs Ls ns x y z a0 (l.setIfInBounds 14 true)) a w := by
  have hb : bit l 14 = false := (mem_ready.1 hi).1
  obtain ⟨o, ho, hop, hdst⟩ := op_of H.hO.o14
  have hg := bare_of H.hO.bare ho
  have hz0 := H.hz
  refine wpOp_of ho hg ?_
  have h3 : bit l 11 = true := dep_bit (List.all_eq_true.1 H.hO.deps (14, 11) (by simp)) hi
  have hs9 : sl a 9 = ptr tv := (J.fr.same 9 (by decide)).trans H.h9
  obtain ⟨ad, cap, hv⟩ := (show RowO W.heap.size ow 14 w (es 14) v14 (L14.map ptr) by simpa [upU] using J.bun.rows 14 (by decide) (by decide)).slice
  refine wp_store 9 82 27 (ptr tv) v14 hop hs9 (J.C.c4 h3).1 (store_one tv v14 w (J.bun.var.cell 0 rfl) (J.bun.var.free 0) hv) ?_
  rw [hdst]
  have hp : a.put none undef = a := rfl
  rw [hp]
  exact ⟨ow, v12, v13, v14, v14, L12, L13, L14, ex, by simp [J.sz], J.fr, J.bun.put v14 rfl, J.old.past (Only.setCell (S := [tv]) _ (by simp) _) (fun b hb' => by simp at hb'; subst hb'; exact Or.inr (J.bun.tl b (by simp)).1), J.A.other' hb (by decide) (by decide) (by decide) (by decide) (by decide), J.B.other' hb (by decide) (by decide) (by decide) (by decide) (by decide), J.C.go4' apC hb h3, (by rw [bit_set l 14 12 hb, if_neg (by decide)]; exact J.a0), (by rw [bit_set l 14 12 hb, if_neg (by decide)]; exact J.a1), (by rw [bit_set l 14 13 hb, if_neg (by decide)]; exact J.b0), (by rw [bit_set l 14 13 hb, if_neg (by decide)]; exact J.b1), (by rw [bit_set l 14 14 hb, if_pos rfl]; exact fun h => by cases h), (fun _ => rfl)⟩

end

/-- Three appends in one statement. -/
theorem three_appends {ops : Array Oper} {Q : Exit → Act → World → Prop} {id : Nat} {W : World} {tv k : Nat} {ow : Nat → Nat} {ps : Nat → PU} {vs : Nat → Value} {Ls : Nat → List Nat} {ns : List (Nat × Array Value × TypeId)} {x y z : Nat} {a0 : Act} {w : World}
    (hO : TriOps ops) (hz : a0.tmps.size = 369) (h7 : sl a0 7 = vs 12) (h8 : sl a0 8 = vs 13) (h9 : sl a0 9 = ptr tv) (h14 : sl a0 14 = ptr x) (h15 : sl a0 15 = ptr y) (h16 : sl a0 16 = ptr z) (hL : ∀ r, (Ls r).length ≤ 1000)
    (hB : Bun W.heap.size tv k ow w ps vs Ls (vs 14) ns) (hW : Only [] W w)
    (hQ : ∀ (a : Act) (w' : World) (ow' : Nat → Nat) (v12 v13 v14 : Value), Fr a0 triS a → sl a 7 = v12 → sl a 8 = v13 → Bun W.heap.size tv k ow' w' ps (upU (upU (upU vs 12 v12) 13 v13) 14 v14) (upU (upU (upU Ls 12 (Ls 12 ++ [x])) 13 (Ls 13 ++ [y])) 14 (Ls 14 ++ [z])) v14 ns → Only [] W w' → Q .normal a w') :
    (Code.region id ops true).wp Try.prog Q a0 w := by
  refine wp_region_inv (by kernel_rfl) (TriI W tv k ps vs Ls ns x y z a0) ?_ ?_ ?_
  · rintro l a w i ⟨ow, v12, v13, v14, u, L12, L13, L14, ex, J⟩ hi
    have hlt : i < 15 := by
      obtain ⟨_, o, ho, _⟩ := mem_ready.1 hi
      rw [← hO.size]
      exact (Array.getElem?_eq_some_iff.1 ho).1
    match i, hlt with
    | 0, _ => exact tri_0 ⟨hO, hz, h9, h14, h15, h16, hL⟩ J hi
    | 1, _ => exact tri_1 ⟨hO, hz, h9, h14, h15, h16, hL⟩ J hi
    | 2, _ => exact tri_2 ⟨hO, hz, h9, h14, h15, h16, hL⟩ J hi
    | 3, _ => exact tri_3 ⟨hO, hz, h9, h14, h15, h16, hL⟩ J hi
    | 4, _ => exact tri_4 ⟨hO, hz, h9, h14, h15, h16, hL⟩ J hi
    | 5, _ => exact tri_5 ⟨hO, hz, h9, h14, h15, h16, hL⟩ J hi
    | 6, _ => exact tri_6 ⟨hO, hz, h9, h14, h15, h16, hL⟩ J hi
    | 7, _ => exact tri_7 ⟨hO, hz, h9, h14, h15, h16, hL⟩ J hi
    | 8, _ => exact tri_8 ⟨hO, hz, h9, h14, h15, h16, hL⟩ J hi
    | 9, _ => exact tri_9 ⟨hO, hz, h9, h14, h15, h16, hL⟩ J hi
    | 10, _ => exact tri_10 ⟨hO, hz, h9, h14, h15, h16, hL⟩ J hi
    | 11, _ => exact tri_11 ⟨hO, hz, h9, h14, h15, h16, hL⟩ J hi
    | 12, _ => exact tri_12 ⟨hO, hz, h9, h14, h15, h16, hL⟩ J hi
    | 13, _ => exact tri_13 ⟨hO, hz, h9, h14, h15, h16, hL⟩ J hi
    | 14, _ => exact tri_14 ⟨hO, hz, h9, h14, h15, h16, hL⟩ J hi
  · rintro l a w ⟨ow, v12, v13, v14, u, L12, L13, L14, ex, J⟩ hr
    have hall := all_done hO.back (by rw [J.sz, hO.size]) hr
    have e12 := (J.A.c4 (hall 4 3 (by omega))).2.1
    have e13 := (J.B.c4 (hall 8 7 (by omega))).2.1
    have e14 := (J.C.c4 (hall 12 11 (by omega))).2.1
    have hb := J.bun
    rw [e12, e13, e14, J.c1 (hall 15 14 (by omega))] at hb
    exact hQ a w ow v12 v13 v14 J.fr (J.a1 (hall 13 12 (by omega))) (J.b1 (hall 14 13 (by omega))) hb.more J.old
  · have hbit : ∀ i, i < 15 → bit (Array.replicate ops.size false) i = false := fun i hi => by unfold bit; rw [hO.size]; simp [hi]
    have hno : ∀ i, i < 15 → bit (Array.replicate ops.size false) i = true → False := fun i hi h => by rw [hbit i hi] at h; cases h
    have ev := upU_id vs
    have eL := upU_id Ls
    refine ⟨ow, vs 12, vs 13, vs 14, vs 14, Ls 12, Ls 13, Ls 14, [], by simp [hO.size], Fr.refl _ _, ?_, hW.trans (Only.drew _ _), ⟨fun h => (hno _ (by omega) h).elim, fun h => (hno _ (by omega) h).elim, fun h => (hno _ (by omega) h).elim, fun _ => ⟨rfl, rfl⟩, fun h => (hno _ (by omega) h).elim, fun h => (hno _ (by omega) h).elim⟩, ⟨fun h => (hno _ (by omega) h).elim, fun h => (hno _ (by omega) h).elim, fun h => (hno _ (by omega) h).elim, fun _ => ⟨rfl, rfl⟩, fun h => (hno _ (by omega) h).elim, fun h => (hno _ (by omega) h).elim⟩, ⟨fun h => (hno _ (by omega) h).elim, fun h => (hno _ (by omega) h).elim, fun h => (hno _ (by omega) h).elim, fun _ => ⟨rfl, rfl⟩, fun h => (hno _ (by omega) h).elim, fun h => (hno _ (by omega) h).elim⟩, fun _ => h7, fun h => (hno _ (by omega) h).elim, fun _ => h8, fun h => (hno _ (by omega) h).elim, fun _ => rfl, fun h => (hno _ (by omega) h).elim⟩
    rw [ev, eL, List.append_nil]
    exact hB.junk (Only.drew _ _)

end Go.Proofs.Ytbcdkcepgbegjaa
