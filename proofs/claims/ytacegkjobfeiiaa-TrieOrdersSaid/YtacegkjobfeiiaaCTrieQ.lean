/- What Put and Drop leave: definitions and plain laws. No condition. -/
import Derived.Test.YtacegkjobfeiiaaCPlain
import Derived.Test.YtacegkjobfeiiaaCTrieO
set_option linter.unusedVariables false
set_option linter.unusedSimpArgs false
set_option linter.unusedSectionVars false
set_option linter.unnecessarySimpa false
namespace Go.Proofs.Ytacegkjobfeiiaa
open Go.RowKit

def rootOf (S : Nat → Sl) : Option Tr → Int
  | none => 0
  | some x => hnd S x
def prs : Option Tr → List KV
  | none => []
  | some x => x.pairs
def slotsO : Option Tr → List Nat
  | none => []
  | some x => x.slots
def RepO (n : Nat) (S : Nat → Sl) : Option Tr → Prop
  | none => True
  | some x => Rep n S x ∧ x.wf

theorem hnd_pos {n : Nat} {S : Nat → Sl} {x : Tr} (h : Rep n S x) : 0 < hnd S x := by
  obtain ⟨h1, _, _, h4, _⟩ := h.alive
  unfold hnd wd
  omega

theorem own_steps {w : World} {base : Nat} {e : TypeId} {v : Value} {S : Nat → Sl} {W : List Stp} (h : w.ownsRow base e 7 v W.length (stepsC S W)) : ∃ ad cap, v = .slice ad W.length cap ∧ W.length ≤ cap ∧ ((W = [] ∧ ad = none) ∨ ∃ g, ad = some ⟨g, 0, none⟩ ∧ base ≤ g ∧ StepsAt w S g W) := by
  rcases h.2 with ⟨rfl, h1⟩ | ⟨g, cap, cur, rfl, hg, hb, hnc, _⟩
  · have : W = [] := List.eq_nil_of_length_eq_zero h1
    subst this
    exact ⟨none, 0, rfl, Nat.zero_le _, Or.inl ⟨rfl, rfl⟩⟩
  · refine ⟨_, cap, rfl, hnc, Or.inr ⟨g, rfl, hg, (Array.getElem?_eq_some_iff.1 hb).1, fun q s hs j u hu => ?_⟩⟩
    have hj : j < 7 := by
      have := (List.getElem?_eq_some_iff.1 hu).1
      simpa [stepC] using this
    have := h.cells (g := g) rfl (q * 7 + j) u (by rw [stepsC_at S W q s hs j hj]; exact hu)
    rwa [Addr.add_lit, Nat.zero_add] at this

/-- What an edit has done: the map's rows are P, the new map, what is gone and made. -/
def EdOk (A : PA) (n : Nat) (S0 : Nat → Sl) (fs0 : List Nat) (t0 fa : Int) (tb : Nat) (ox : Option Tr) (old : Int) (had : Bool) (P : List KV) (w : World) (e : Ending) (w' : World) : Prop :=
  ∃ (oy : Option Tr) (S' : Nat → Sl) (t' : Int) (m : Nat) (gs rest : List Nat) (gv mv : Value), e = .returned (.tuple #[.agg #[.int .i64 (rootOf S' oy), .int .i64 old, .bool had, gv, mv], .int .i64 0]) ∧
    RepO n S' oy ∧ prs oy = P ∧ Mg S0 S' fs0 (fs0.drop m) t0 t' m ∧ TrAt w' tb A n S' t' (fs0.drop m) fa ∧
    w'.ownsRow w.heap.size 3 1 gv gs.length ((hnds S0 gs).map (Value.int .i64)) ∧ w'.ownsRow w.heap.size 3 1 mv m ((mds S0 (fs0.take m)).map (Value.int .i64)) ∧
    (slotsO ox).Perm (gs ++ rest) ∧ (slotsO oy).Perm (fs0.take m ++ rest) ∧ m ≤ gs.length + 2 ∧ m ≤ 34 ∧ Only A.all w w'

/-- A place lacked. -/
def EdNo (A : PA) (n : Nat) (S0 : Nat → Sl) (fs0 : List Nat) (t0 fa : Int) (tb : Nat) (w : World) (e : Ending) (w' : World) : Prop :=
  e = .returned (.tuple #[.agg #[.int .i64 0, .int .i64 0, .bool false, .slice none 0 0, .slice none 0 0], .int .i64 102]) ∧ ∃ S t, TrAt w' tb A n S t fs0 fa ∧ Undone S0 S fs0 ∧ t = t0 + 2 * fs0.length ∧ Only A.all w w'

/-- The same, and what is told of the new map, of how many places were taken, of what is gone. -/
def EdOkX (X : Option Tr → Nat → List Nat → Prop) (A : PA) (n : Nat) (S0 : Nat → Sl) (fs0 : List Nat) (t0 fa : Int) (tb : Nat) (ox : Option Tr) (old : Int) (had : Bool) (P : List KV) (w : World) (e : Ending) (w' : World) : Prop :=
  ∃ (oy : Option Tr) (S' : Nat → Sl) (t' : Int) (m : Nat) (gs rest : List Nat) (gv mv : Value), e = .returned (.tuple #[.agg #[.int .i64 (rootOf S' oy), .int .i64 old, .bool had, gv, mv], .int .i64 0]) ∧
    RepO n S' oy ∧ prs oy = P ∧ Mg S0 S' fs0 (fs0.drop m) t0 t' m ∧ TrAt w' tb A n S' t' (fs0.drop m) fa ∧
    w'.ownsRow w.heap.size 3 1 gv gs.length ((hnds S0 gs).map (Value.int .i64)) ∧ w'.ownsRow w.heap.size 3 1 mv m ((mds S0 (fs0.take m)).map (Value.int .i64)) ∧
    (slotsO ox).Perm (gs ++ rest) ∧ (slotsO oy).Perm (fs0.take m ++ rest) ∧ m ≤ gs.length + 2 ∧ m ≤ 34 ∧ Only A.all w w' ∧ X oy m gs

theorem EdOkX.ok {X : Option Tr → Nat → List Nat → Prop} {A : PA} {n : Nat} {S0 : Nat → Sl} {fs0 : List Nat} {t0 fa : Int} {tb : Nat} {ox : Option Tr} {old : Int} {had : Bool} {P : List KV} {w : World} {e : Ending} {w' : World} (h : EdOkX X A n S0 fs0 t0 fa tb ox old had P w e w') : EdOk A n S0 fs0 t0 fa tb ox old had P w e w' := by
  obtain ⟨oy, S', t', m, gs, rest, gv, mv, h1, h2, h3, h4, h5, h6, h7, h8, h9, h10, h11, h12, _⟩ := h
  exact ⟨oy, S', t', m, gs, rest, gv, mv, h1, h2, h3, h4, h5, h6, h7, h8, h9, h10, h11, h12⟩

def EdNoX (need : Nat) (A : PA) (n : Nat) (S0 : Nat → Sl) (fs0 : List Nat) (t0 fa : Int) (tb : Nat) (w : World) (e : Ending) (w' : World) : Prop := fs0.length < need ∧ EdNo A n S0 fs0 t0 fa tb w e w'

/-- What stands at the end of the way now. -/
def CurIs (fs0 : List Nat) (nn : Tr) (k v : Int) (kk : Nat) (cur0 : Tr) (gs0 : List Nat) : Prop :=
  (∃ i u j r, nn = .leaf i k u ∧ fs0 = j :: r ∧ kk = 1 ∧ gs0 = [i] ∧ cur0 = .leaf j k v) ∨
  (∃ j0 j1 r p, (∀ i u, nn ≠ .leaf i k u) ∧ fs0 = j0 :: j1 :: r ∧ kk = 2 ∧ gs0 = [] ∧ Plc k nn.lo p ∧ cur0 = fork j1 p (nn.lo / pw (p + 1) * pw (p + 1)) k (.leaf j0 k v) nn)

/-- What Put makes. -/
def PutIs (fs0 : List Nat) (x : Tr) (k v : Int) (oy : Option Tr) (m : Nat) (gs : List Nat) : Prop :=
  (m = 0 ∧ gs = [] ∧ oy = some x ∧ ∃ i, (down x k).2 = .leaf i k v) ∨
  ∃ kk cur0 gs0, CurIs fs0 (down x k).2 k v kk cur0 gs0 ∧ m = kk + (down x k).1.length ∧ gs = gs0 ++ goneI (down x k).1 ∧ oy = some (rebuild (down x k).1 cur0 (fs0.drop kk)).1

/-- How many places Drop takes, how many are gone. -/
def DropIs (x : Tr) (k : Int) (oy : Option Tr) (m : Nat) (gs : List Nat) : Prop :=
  ((down x k).1 = [] ∧ m = 0 ∧ gs.length = 1) ∨ (m + 1 = (down x k).1.length ∧ gs.length = (down x k).1.length + 1)

/-- Nothing was done: an error. -/
def EdErr (x : Int) (w : World) (e : Ending) (w' : World) : Prop :=
  e = .returned (.tuple #[.agg #[.int .i64 0, .int .i64 0, .bool false, .slice none 0 0, .slice none 0 0], .int .i64 x]) ∧ Only [] w w'

theorem assertL_any (S : Nat → Sl) (x : Tr) : ∃ (a v : Int) (ok : Bool), (∀ T sv, shV S x = .iface T sv → ∀ w, (Instr.typeAssert (.iface T sv) 123 129 true).run Try.prog w = .ok (.tuple #[.agg #[.int .i64 a, .int .i64 v], .bool ok]) w) ∧ (ok = true → ∃ i, x = .leaf i a v) ∧ (ok = false → ∀ i a v, x ≠ .leaf i a v) := by
  cases x with
  | leaf i k v =>
    refine ⟨k, v, true, fun T sv h w => ?_, fun _ => ⟨i, rfl⟩, fun h => by cases h⟩
    have h : Value.iface 129 (.agg #[.int .i64 k, .int .i64 v]) = .iface T sv := h
    have h1 := (Value.iface.inj h).1
    have h2 := (Value.iface.inj h).2
    rw [← h1, ← h2]
    exact assertL_leaf k v w
  | node i p f l r =>
    refine ⟨0, 0, false, fun T sv h w => ?_, (fun h => by cases h), fun _ i a v h => by cases h⟩
    have h : Value.iface 135 (.agg #[.int .i64 p, .int .i64 f, .int .i64 (hnd S l), .int .i64 (hnd S r), .int .i64 ((Tr.node i p f l r).cnt : Nat)]) = .iface T sv := h
    have h1 := (Value.iface.inj h).1
    have h2 := (Value.iface.inj h).2
    rw [← h1, ← h2]
    exact assertL_inner p f _ _ _ w

theorem Blk.fill5 {w : World} {b : Nat} {z0 z1 z2 z3 z4 : Value} {T : TypeId} (h : Blk w b #[z0, z1, z2, z3, z4] T) (v0 v1 v2 v3 v4 : Value) :
    Blk (((((w.setCell ⟨b, 0, none⟩ v0).setCell ⟨b, 1, none⟩ v1).setCell ⟨b, 2, none⟩ v2).setCell ⟨b, 3, none⟩ v3).setCell ⟨b, 4, none⟩ v4) b #[v0, v1, v2, v3, v4] T ∧
    Only [b] w (((((w.setCell ⟨b, 0, none⟩ v0).setCell ⟨b, 1, none⟩ v1).setCell ⟨b, 2, none⟩ v2).setCell ⟨b, 3, none⟩ v3).setCell ⟨b, 4, none⟩ v4) := by
  have a0 : Blk _ b #[v0, z1, z2, z3, z4] T := h.set_same 0 v0
  have a1 : Blk _ b #[v0, v1, z2, z3, z4] T := a0.set_same 1 v1
  have a2 : Blk _ b #[v0, v1, v2, z3, z4] T := a1.set_same 2 v2
  have a3 : Blk _ b #[v0, v1, v2, v3, z4] T := a2.set_same 3 v3
  have a4 : Blk _ b #[v0, v1, v2, v3, v4] T := a3.set_same 4 v4
  exact ⟨a4, ((((Only.setCell w (by simp) v0).trans (Only.setCell _ (by simp) v1)).trans (Only.setCell _ (by simp) v2)).trans (Only.setCell _ (by simp) v3)).trans (Only.setCell _ (by simp) v4)⟩

theorem Only.cellFar {S : List Nat} {w : World} {a p : Addr} {v : Value} (_ : Only S w (w.setCell a v)) (hn : p.block ≠ a.block) : (w.setCell a v).cell? p = w.cell? p :=
  World.cell?_of_block (Below.heap_setCell _ _ _ _ hn)

def EditThree (w W : World) (mb : Nat) (a0 a1 a2 a6 v3 v4 x : Value) (T I : TypeId) : Prop :=
  Blk W mb #[a0, a1, a2, v3, v4, .slice (some ⟨w.heap.size, 0, none⟩) 1 1, a6] T ∧ Blk W w.heap.size #[x] I ∧ Only [mb] w W

/-- Three stores and a new block, in whatever order. -/
theorem edit_three {w : World} {mb : Nat} {a0 a1 a2 z3 z4 z5 a6 : Value} {T : TypeId} (h : Blk w mb #[a0, a1, a2, z3, z4, z5, a6] T) (v3 v4 x : Value) (I : TypeId) :
    EditThree w ((((w.alloc (.cells #[x] I)).setCell ⟨mb, 3, none⟩ v3).setCell ⟨mb, 4, none⟩ v4).setCell ⟨mb, 5, none⟩ (.slice (some ⟨w.heap.size, 0, none⟩) 1 1)) mb a0 a1 a2 a6 v3 v4 x T I ∧
    EditThree w ((((w.setCell ⟨mb, 3, none⟩ v3).alloc (.cells #[x] I)).setCell ⟨mb, 4, none⟩ v4).setCell ⟨mb, 5, none⟩ (.slice (some ⟨w.heap.size, 0, none⟩) 1 1)) mb a0 a1 a2 a6 v3 v4 x T I ∧
    EditThree w ((((w.setCell ⟨mb, 3, none⟩ v3).setCell ⟨mb, 4, none⟩ v4).alloc (.cells #[x] I)).setCell ⟨mb, 5, none⟩ (.slice (some ⟨w.heap.size, 0, none⟩) 1 1)) mb a0 a1 a2 a6 v3 v4 x T I := by
  have hl := h.lt
  have e1 : (w.setCell ⟨mb, 3, none⟩ v3).heap.size = w.heap.size := by simp [World.setCell]
  have e2 : ((w.setCell ⟨mb, 3, none⟩ v3).setCell ⟨mb, 4, none⟩ v4).heap.size = w.heap.size := by simp [World.setCell]
  refine ⟨⟨?_, ?_, ?_⟩, ⟨?_, ?_, ?_⟩, ⟨?_, ?_, ?_⟩⟩
  · have := (((h.alloc (.cells #[x] I)).set_same 3 v3).set_same 4 v4).set_same 5 (.slice (some ⟨w.heap.size, 0, none⟩) 1 1)
    simpa using this
  · exact (((Blk.new w #[x] I).set_other (a := ⟨mb, 3, none⟩) (by simp; omega) v3).set_other (a := ⟨mb, 4, none⟩) (by simp; omega) v4).set_other (a := ⟨mb, 5, none⟩) (by simp; omega) _
  · exact (((Only.alloc [mb] w _).trans (Only.setCell _ (by simp) _)).trans (Only.setCell _ (by simp) _)).trans (Only.setCell _ (by simp) _)
  · have := (((h.set_same 3 v3).alloc (.cells #[x] I)).set_same 4 v4).set_same 5 (.slice (some ⟨w.heap.size, 0, none⟩) 1 1)
    simpa using this
  · have := ((Blk.new (w.setCell ⟨mb, 3, none⟩ v3) #[x] I).set_other (a := ⟨mb, 4, none⟩) (by simp [e1]; omega) v4).set_other (a := ⟨mb, 5, none⟩) (by simp [e1]; omega) (.slice (some ⟨w.heap.size, 0, none⟩) 1 1)
    rw [e1] at this
    exact this
  · exact (((Only.setCell (S := [mb]) w (by simp) _).trans (Only.alloc [mb] _ _)).trans (Only.setCell _ (by simp) _)).trans (Only.setCell _ (by simp) _)
  · have := (((h.set_same 3 v3).set_same 4 v4).alloc (.cells #[x] I)).set_same 5 (.slice (some ⟨w.heap.size, 0, none⟩) 1 1)
    simpa using this
  · have := (Blk.new ((w.setCell ⟨mb, 3, none⟩ v3).setCell ⟨mb, 4, none⟩ v4) #[x] I).set_other (a := ⟨mb, 5, none⟩) (by simp [e2]; omega) (.slice (some ⟨w.heap.size, 0, none⟩) 1 1)
    rw [e2] at this
    exact this
  · exact (((Only.setCell (S := [mb]) w (by simp) _).trans (Only.setCell _ (by simp) _)).trans (Only.alloc [mb] _ _)).trans (Only.setCell _ (by simp) _)

theorem EditThree.drew {w W : World} {mb : Nat} {a0 a1 a2 a6 v3 v4 x : Value} {T I : TypeId} (h : EditThree w W mb a0 a1 a2 a6 v3 v4 x T I) : EditThree w W.drew mb a0 a1 a2 a6 v3 v4 x T I := ⟨h.1.drew, h.2.1.drew, h.2.2.trans (Only.drew _ _)⟩

theorem edit_three_drew {w : World} {mb : Nat} {a0 a1 a2 z3 z4 z5 a6 : Value} {T : TypeId} (h : Blk w mb #[a0, a1, a2, z3, z4, z5, a6] T) (v3 v4 x : Value) (I : TypeId) :
    EditThree w ((((w.alloc (.cells #[x] I)).setCell ⟨mb, 3, none⟩ v3).setCell ⟨mb, 4, none⟩ v4).setCell ⟨mb, 5, none⟩ (.slice (some ⟨w.heap.size, 0, none⟩) 1 1)).drew mb a0 a1 a2 a6 v3 v4 x T I ∧
    EditThree w ((((w.setCell ⟨mb, 3, none⟩ v3).alloc (.cells #[x] I)).setCell ⟨mb, 4, none⟩ v4).setCell ⟨mb, 5, none⟩ (.slice (some ⟨w.heap.size, 0, none⟩) 1 1)).drew mb a0 a1 a2 a6 v3 v4 x T I ∧
    EditThree w ((((w.setCell ⟨mb, 3, none⟩ v3).setCell ⟨mb, 4, none⟩ v4).alloc (.cells #[x] I)).setCell ⟨mb, 5, none⟩ (.slice (some ⟨w.heap.size, 0, none⟩) 1 1)).drew mb a0 a1 a2 a6 v3 v4 x T I := by
  obtain ⟨h1, h2, h3⟩ := edit_three h v3 v4 x I
  exact ⟨h1.drew, h2.drew, h3.drew⟩

theorem edit_perm {x nn cur0 : Tr} {W : List Stp} {fs0 : List Nat} {kk : Nat} {gs0 restn : List Nat} (h : Way x W nn) (h1 : nn.slots.Perm (gs0 ++ restn)) (h2 : cur0.slots.Perm (fs0.take kk ++ restn)) (hl : kk + W.length ≤ fs0.length) :
    x.slots.Perm ((gs0 ++ goneI W) ++ (othersOf W ++ restn)) ∧ (rebuild W cur0 (fs0.drop kk)).1.slots.Perm (fs0.take (kk + W.length) ++ (othersOf W ++ restn)) := by
  have e : fs0.take (kk + W.length) = fs0.take kk ++ (fs0.drop kk).take W.length := by rw [List.take_add]
  have h3 := rebuild_slots (w := W) (t := cur0) (fs := fs0.drop kk) (by simp; omega)
  refine ⟨List.perm_iff_count.2 fun a => ?_, List.perm_iff_count.2 fun a => ?_⟩
  · have c1 := (way_slots h).count_eq a
    have c2 := h1.count_eq a
    simp only [List.count_append, goneI, List.count_reverse] at c1 c2 ⊢
    omega
  · have c1 := h3.count_eq a
    have c2 := h2.count_eq a
    rw [e]
    simp only [List.count_append] at c1 c2 ⊢
    omega

def WayOk (w : World) (S : Nat → Sl) (ad : Option Addr) (g : Nat) (W : List Stp) : Prop := g < w.heap.size ∧ (W = [] ∨ (ad = some ⟨g, 0, none⟩ ∧ StepsAt w S g W))

theorem WayOk.only {w w' : World} {S : Nat → Sl} {ad : Option Addr} {g : Nat} {W : List Stp} {L : List Nat} (h : WayOk w S ad g W) (o : Only L w w') (hn : g ∉ L) : WayOk w' S ad g W :=
  ⟨Nat.lt_of_lt_of_le h.1 o.size, h.2.imp id fun ⟨h1, h2⟩ => ⟨h1, h2.only o hn⟩⟩

/-- In the midst of Put: the end of the way has been made anew. -/
def PutGo (A : PA) (n : Nat) (S0 : Nat → Sl) (fs0 : List Nat) (t0 fa : Int) (tb mb base g : Nat) (ad : Option Addr) (x : Tr) (k v old : Int) (had : Bool) (wS : World) (more : Int) (wc : World) : Prop :=
  ∃ (kk : Nat) (cur0 : Tr) (S1 : Nat → Sl) (fs1 : List Nat) (t1 : Int) (gv mv : Value) (gs0 restn : List Nat),
    MSt A n S0 fs0 t0 fa tb mb base old had (hnds S0 gs0) wS kk S1 fs1 t1 (hnd S1 cur0) gv mv wc ∧ Rep n S1 cur0 ∧ cur0.wf ∧ (∀ s, (down x k).1.getLast? = some s → s.lo ≤ cur0.lo ∧ cur0.hi ≤ s.hi) ∧ (cur0.cnt : Int) = (down x k).2.cnt + more ∧ -1 ≤ more ∧ more ≤ 1 ∧
    gs0.length ≤ 1 ∧ gv.ownBlock ≠ some g ∧ mv.ownBlock ≠ some g ∧ WayOk wc S0 ad g (down x k).1 ∧ (∀ fs, (rebuild (down x k).1 cur0 fs).1.pairs = ins x.pairs k v) ∧ kk ≤ gs0.length + 2 ∧ kk ≤ 2 ∧ (down x k).2.slots.Perm (gs0 ++ restn) ∧ cur0.slots.Perm (fs0.take kk ++ restn) ∧ CurIs fs0 (down x k).2 k v kk cur0 gs0

def PutMid (A : PA) (n : Nat) (S0 : Nat → Sl) (fs0 : List Nat) (t0 fa : Int) (tb mb base g : Nat) (ad : Option Addr) (x : Tr) (k v old : Int) (had : Bool) (wS : World) (s16 s17 : Value) (wc : World) : Prop :=
  ∃ more : Int, s17 = .int .i64 more ∧ ((s16 = .int .i64 0 ∧ PutGo A n S0 fs0 t0 fa tb mb base g ad x k v old had wS more wc) ∨ (s16 = .int .i64 102 ∧ ∃ need, need ≤ 2 ∧ UpNo A n S0 fs0 t0 fa tb mb need wS (.returned (.int .i64 102)) wc))

theorem edit_zero (w : World) : (zeroValue 38).run Try.prog w = .ok (.agg #[.int .i64 0, .int .i64 0, .bool false, .slice none 0 0, .slice none 0 0]) w := by kernel_rfl

/-- What an edit tells of the key. -/
def oldOf (l : List KV) (k : Int) : Int := (valL l k).1
def hadOf (l : List KV) (k : Int) : Bool := (valL l k).2

theorem way_old {x : Tr} (h : x.wf) {k v0 : Int} {i : Nat} (hn : (down x k).2 = .leaf i k v0) : oldOf x.pairs k = v0 ∧ hadOf x.pairs k = true := by
  have hw := down_way x k
  have he := down_ends x k
  rw [hn] at hw he
  have h1 := find_eq hw h (down_on x k) he
  simp only [if_true] at h1
  unfold oldOf hadOf
  rw [valL_eq (Tr.wf_rising h) h1]
  exact ⟨rfl, rfl⟩

theorem way_none {x : Tr} (h : x.wf) {k : Int} (hn : ∀ i v, (down x k).2 ≠ .leaf i k v) : oldOf x.pairs k = 0 ∧ hadOf x.pairs k = false := by
  have h2 : val x.pairs k = none := by
    have hw := down_way x k
    have he := down_ends x k
    have ho := down_on x k
    cases hd : (down x k).2 with
    | leaf i a v =>
      rw [hd] at hw he
      have h1 := find_eq hw h ho he
      simp only at h1
      rw [h1, if_neg]
      intro e
      subst e
      exact hn i v hd
    | node =>
      rw [hd] at hw he
      exact find_eq hw h ho he
  unfold oldOf hadOf
  rw [valL_no (Tr.wf_rising h) h2]
  exact ⟨rfl, rfl⟩

theorem way_getLast {W : List Stp} {t n : Tr} {s : Stp} (h : Way t W n) (ht : t.wf) (hs : W.getLast? = some s) : s.whole.wf ∧ s.lo ≤ n.lo ∧ n.hi ≤ s.hi := by
  obtain ⟨ys, rfl⟩ := List.getLast?_eq_some_iff.1 hs
  have hw := (way_wf h ht).2 s (by simp)
  obtain ⟨_, h2⟩ := way_last h
  rw [h2]
  exact ⟨hw, (into_wf hw).2⟩

theorem on_mem {k : Int} : ∀ {W : List Stp} {s : Stp}, On k W → s ∈ W → s.lo ≤ k ∧ k ≤ s.hi
  | a :: W, s, h, hs => by
    obtain ⟨h1, h2, h3⟩ := h
    rcases List.mem_cons.1 hs with rfl | hs
    · exact ⟨h1, h2⟩
    · exact on_mem h3 hs

theorem way_off {x : Tr} {k : Int} (hn : ∀ i v, (down x k).2 ≠ .leaf i k v) : ¬ ((down x k).2.lo ≤ k ∧ k ≤ (down x k).2.hi) := by
  rcases down_ends x k with ⟨i, a, v, h⟩ | h
  · rw [h]
    simp only [Tr.lo, Tr.hi]
    rintro ⟨h1, h2⟩
    have : a = k := by omega
    subst this
    exact hn i v h
  · exact h

theorem ins_same {l : List KV} (h : Tr.rising l) {k v : Int} (hv : val l k = some v) : ins l k v = l := by
  rw [← withL_ins h]
  unfold withL
  have h1 := valL_eq h hv
  have hb : isAt l k = true := by rw [← valL_has, h1]
  have hlt := isAt_lt l k hb
  have hget : l[whr l k]? = some (k, v) := by
    unfold valL at h1
    rw [List.getElem?_eq_getElem (by omega)] at h1 ⊢
    simp only at h1
    split at h1
    · rename_i he
      have h2 : l[whr l k].2 = v := by simpa using h1
      exact congrArg some (Prod.ext he h2)
    · simp at h1
  rw [hb, if_pos rfl]
  have hd := List.drop_eq_getElem_cons (show whr l k < l.length by omega)
  rw [List.getElem?_eq_getElem (show whr l k < l.length by omega)] at hget
  injection hget with hget
  rw [← hget, ← hd, List.take_append_drop]

end Go.Proofs.Ytacegkjobfeiiaa

