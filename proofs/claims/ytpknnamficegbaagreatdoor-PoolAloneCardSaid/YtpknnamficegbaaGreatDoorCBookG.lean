/- The book: laws for writing lists full and laying them on. Each law names its conditions. -/
import Derived.Test.YtpknnamficegbaaGreatDoorCBookF
set_option linter.unusedVariables false
set_option linter.unusedSimpArgs false
set_option linter.unusedSectionVars false
set_option linter.unnecessarySimpa false
namespace Go.Proofs.YtpknnamficegbaaGreatDoor
open Go.RowKit

/-- One kind's pieces, told one by one, each row with its own length. -/
def kinY (base : Nat) (ts : TypeId) (a : Hv) (no : Nat) (xo : List Value) (nt : Nat) (xt : List Value) (nw : Nat) (xw : List Value) (nn : Nat) (xn : List Value) (nm : Nat) (xm : List Value) (nd : Nat) (xd : List Value) (nf : Nat) (xf : List Value) (nr : Nat) (xr : List Value) (mp : Pc) : List Pc :=
  [rowPc base ts 1 a.o no xo, rowPc base ts 1 a.t nt xt, rowPc base ts 1 a.w nw xw, rowPc base ts 1 a.n nn xn, rowPc base 3 1 a.m nm xm, rowPc base 3 1 a.d nd xd, rowPc base ts 1 a.f nf xf, rowPc base 3 1 a.r nr xr, mp]

/-- The pieces while lists are written: the old rows, the header, the kind's own, the others. -/
def markL (base : Nat) (e ts : TypeId) (sz : Nat) (hp : Pc) (es : List Ent) (d0 m0 n0 w0 : Value) (A : Hv) (es' fs' : List Ent) (ps' : List (Value × Value)) (rest : List Ent) (St : List Nat) (rs : List Rdr) (RR : List Pc) : List Pc :=
  rowPc base 3 1 d0 es.length (dus es) :: rowPc base 3 1 m0 es.length (mks es) :: rowPc base ts 1 n0 es.length (es.map Ent.note) :: rowPc base ts 1 w0 es.length (es.map Ent.v) :: hp ::
    (kinY base ts A ps'.length (ps'.map Prod.fst) ps'.length (ps'.map Prod.snd) es'.length (es'.map Ent.v) es'.length (es'.map Ent.note) es'.length (mks es') es'.length (dus es') fs'.length (fs'.map Ent.v) fs'.length (mks fs') (memPc base e sz (es' ++ fs' ++ rest) St rs) ++ RR)

theorem markL_keep (base : Nat) (e ts : TypeId) (sz : Nat) (hp : Pc) (es : List Ent) (d0 m0 n0 w0 : Value) (A : Hv) (es' fs' : List Ent) (ps' : List (Value × Value)) (x : Ent) (rest : List Ent) (St : List Nat) (rs : List Rdr) (RR : List Pc) : markL base e ts sz hp es d0 m0 n0 w0 A (es' ++ [x]) fs' ps' rest St rs RR =
  rowPc base 3 1 d0 es.length (dus es) :: rowPc base 3 1 m0 es.length (mks es) :: rowPc base ts 1 n0 es.length (es.map Ent.note) :: rowPc base ts 1 w0 es.length (es.map Ent.v) :: hp ::
    (kinY base ts A ps'.length (ps'.map Prod.fst) ps'.length (ps'.map Prod.snd) (es'.length + 1) (es'.map Ent.v ++ [x.v]) (es'.length + 1) (es'.map Ent.note ++ [x.note]) (es'.length + 1) (mks es' ++ [.int .i64 x.mark]) (es'.length + 1) (dus es' ++ [.int .i64 x.due]) fs'.length (fs'.map Ent.v) fs'.length (mks fs') (memPc base e sz ((es' ++ [x]) ++ fs' ++ rest) St rs) ++ RR) := by
  simp [markL, kinY, mks, dus]

theorem markL_due (base : Nat) (e ts : TypeId) (sz : Nat) (hp : Pc) (es : List Ent) (d0 m0 n0 w0 : Value) (A : Hv) (es' fs' : List Ent) (ps' : List (Value × Value)) (x : Ent) (rest : List Ent) (St : List Nat) (rs : List Rdr) (RR : List Pc) : markL base e ts sz hp es d0 m0 n0 w0 A es' (fs' ++ [x]) (ps' ++ [(x.v, x.note)]) rest St rs RR =
  rowPc base 3 1 d0 es.length (dus es) :: rowPc base 3 1 m0 es.length (mks es) :: rowPc base ts 1 n0 es.length (es.map Ent.note) :: rowPc base ts 1 w0 es.length (es.map Ent.v) :: hp ::
    (kinY base ts A (ps'.length + 1) (ps'.map Prod.fst ++ [x.v]) (ps'.length + 1) (ps'.map Prod.snd ++ [x.note]) es'.length (es'.map Ent.v) es'.length (es'.map Ent.note) es'.length (mks es') es'.length (dus es') (fs'.length + 1) (fs'.map Ent.v ++ [x.v]) (fs'.length + 1) (mks fs' ++ [.int .i64 x.mark]) (memPc base e sz (es' ++ (fs' ++ [x]) ++ rest) St rs) ++ RR) := by
  simp [markL, kinY, mks, dus]

section
variable {base : Nat} {l : List Pc} {w w' : World} {e : TypeId} {sz : Nat} {St : List Nat} {rs : List Rdr}

/-- A list of one's own is written to. -/
theorem Star.wrote {p r : List Ent} {x : Ent} {L' : List Int} (h : Star base l w) (i : Nat) (hi : l[i]? = some (memPc base e sz (p ++ x :: r) St rs)) (o : Only x.v.ownBlock.toList w w') (hx : w'.ownsRow base e sz x.v x.n (ints L')) (hb : base ≤ w.heap.size) :
    Star base (l.set i (memPc base e sz (p ++ { x with L := L' } :: r) St rs)) w' ∧ Goes l (l.set i (memPc base e sz (p ++ { x with L := L' } :: r) St rs)) w w' := by
  have hm : MemOk base e sz (p ++ x :: r) St rs w := h.get i hi
  have hold : ∀ b, b ∈ (memPc base e sz (p ++ x :: r) St rs).bl → b < w.heap.size := fun b hb => (h.lies b (mem_bls.2 ⟨_, List.mem_of_getElem? hi, hb⟩)).2
  have hm1 := (hm.perm (List.perm_middle (l₁ := p))).write (L := L') o (fun b hb => Or.inl (by simpa using hb)) hx (fun b hb => hold b (mem_memPc.2 (Or.inr hb)))
  have hm2 := hm1.perm (List.perm_middle (l₁ := p)).symm
  refine h.upd (S := x.v.ownBlock.toList) i hi o (fun b hb => Or.inl (mem_memPc.2 (Or.inl ⟨x, by simp, by simpa using hb⟩))) hm2 (memPc_ok _ _ _ _ _ _) hb (fun b hb => ?_)
  have h2 : b ∈ (memPc base e sz (p ++ x :: r) St rs).bl := by
    rcases mem_memPc.1 hb with ⟨y, hy, hyb⟩ | h1
    · simp only [List.mem_append, List.mem_cons] at hy
      rcases hy with hy | hy | hy
      · exact mem_memPc.2 (Or.inl ⟨y, by simp [hy], hyb⟩)
      · subst hy; exact mem_memPc.2 (Or.inl ⟨x, by simp, hyb⟩)
      · exact mem_memPc.2 (Or.inl ⟨y, by simp [hy], hyb⟩)
    · exact mem_memPc.2 (Or.inr h1)
  exact ⟨Or.inl h2, Nat.lt_of_lt_of_le (hold b h2) o.size⟩

/-- The lists in another order, with other notes. -/
theorem Star.reorder {xs ys : List Ent} (h : Star base l w) (i : Nat) (hi : l[i]? = some (memPc base e sz xs St rs)) (hp : (xs.map fun x => (x.v, x.n, x.L)).Perm (ys.map fun x => (x.v, x.n, x.L))) (hb : base ≤ w.heap.size) :
    Star base (l.set i (memPc base e sz ys St rs)) w ∧ Goes l (l.set i (memPc base e sz ys St rs)) w w := by
  have hm : MemOk base e sz xs St rs w := h.get i hi
  have hxy : ∀ y, y ∈ ys → ∃ x, x ∈ xs ∧ x.v = y.v ∧ x.n = y.n ∧ x.L = y.L := fun y hy => by
    have : (y.v, y.n, y.L) ∈ xs.map fun x => (x.v, x.n, x.L) := hp.mem_iff.2 (List.mem_map.2 ⟨y, hy, rfl⟩)
    obtain ⟨x, h1, h2⟩ := List.mem_map.1 this
    simp only [Prod.mk.injEq] at h2
    exact ⟨x, h1, h2⟩
  have hpw : (xs.map fun x => (x.v, x.n, x.L)).Pairwise fun p q => ∀ b, p.1.ownBlock = some b → q.1.ownBlock ≠ some b := List.pairwise_map.2 hm.apart
  have hpw2 := (hp.pairwise_iff (R := fun p q => ∀ b, p.1.ownBlock = some b → q.1.ownBlock ≠ some b) (fun {p q} hpq b hb hb' => hpq b hb' hb)).1 hpw
  refine h.say i hi ⟨fun y hy => ?_, List.pairwise_map.1 hpw2, fun y hy b hb => ?_, hm.rd⟩ (memPc_ok _ _ _ _ _ _) hb (fun b hb => ?_)
  · obtain ⟨x, h1, h2, h3, h4⟩ := hxy y hy
    rw [← h2, ← h3, ← h4]
    exact hm.own x h1
  · obtain ⟨x, h1, h2, h3, h4⟩ := hxy y hy
    exact hm.off x h1 b (h2 ▸ hb)
  · rcases mem_memPc.1 hb with ⟨y, hy, hyb⟩ | h1
    · obtain ⟨x, h1, h2, h3, h4⟩ := hxy y hy
      exact mem_memPc.2 (Or.inl ⟨x, h1, h2 ▸ hyb⟩)
    · exact mem_memPc.2 (Or.inr h1)

end

/-- The cells of a row that is not empty. -/
theorem own_at {w : World} {base sz n : Nat} {e : TypeId} {v : Value} {xs : List Value} (h : w.ownsRow base e sz v n xs) (hn : 0 < n) : ∃ g cap, v = .slice (some ⟨g, 0, none⟩) n cap ∧ ∀ (j : Nat) (u : Value), xs[j]? = some u → w.cell? ⟨g, j, none⟩ = some u := by
  rcases h.2 with ⟨rfl, h1⟩ | ⟨g, cap, cur, rfl, _⟩
  · omega
  · refine ⟨g, cap, rfl, fun j u hu => ?_⟩
    have := h.cells (g := g) rfl j u hu
    rwa [Addr.add_lit, Nat.zero_add] at this

theorem ints_set (L : List Int) (j : Nat) (x : Int) : (ints L).set j (.int .i64 x) = ints (L.set j x) := by simp [ints, List.map_set]

theorem own_cell {w : World} {base sz n g cap j : Nat} {e : TypeId} {v u : Value} {xs : List Value} (h : w.ownsRow base e sz v n xs) (hv : .slice (some ⟨g, 0, none⟩) n cap = v) (hu : xs[j]? = some u) : w.cell? ⟨g, j, none⟩ = some u := by
  subst hv
  have := h.cells (g := g) rfl j u hu
  rwa [Addr.add_lit, Nat.zero_add] at this

/-- A cell of a row of one's own is written. -/
theorem ownsRow_set {w : World} {base sz n g cap j : Nat} {e : TypeId} {xs : List Value} {u : Value} (h : w.ownsRow base e sz (.slice (some ⟨g, 0, none⟩) n cap) n xs) (hj : j < xs.length) : (w.setCell ⟨g, j, none⟩ u).ownsRow base e sz (.slice (some ⟨g, 0, none⟩) n cap) n (xs.set j u) := by
  refine ⟨by simpa using h.1, ?_⟩
  rcases h.2 with ⟨hv, _⟩ | ⟨g', cap', cur, hv, hg, hb, hnc, hm, hs, ht⟩
  · cases hv
  · cases hv
    refine Or.inr ⟨g, cap, cur.setIfInBounds j u, rfl, hg, ?_, hnc, hm, by simpa using hs, ?_⟩
    · simp [World.setCell, Array.getElem?_modify, hb]
    · rw [← ht, Array.toList_setIfInBounds, List.take_set]

theorem ownsRow_free {w : World} {base sz n g cap : Nat} {e : TypeId} {xs : List Value} (h : w.ownsRow base e sz (.slice (some ⟨g, 0, none⟩) n cap) n xs) (j : Nat) : w.frozen? ⟨g, j, none⟩ = false := by
  rcases h.2 with ⟨hv, _⟩ | ⟨g', cap', cur, hv, hg, hb, _⟩
  · cases hv
  · cases hv
    simp [World.frozen?, hb]

theorem good_perm {ps : List (Value × Value)} {es es2 fs : List Ent} {St : List Nat} {rs : List Rdr} {s : Nat} (h : Kn.Good ⟨ps, es, fs, St, rs⟩ s) (hp : es.Perm es2) : Kn.Good ⟨ps, es2, fs, St, rs⟩ s :=
  ⟨fun x hx => h.wait x (hp.mem_iff.2 hx), h.fresh, h.pair, by have := h.few; have := hp.length_eq; simp only at *; omega, fun x hx => h.mark x (by
    simp only [List.mem_append] at hx ⊢
    rcases hx with hx | hx
    · exact Or.inl (hp.mem_iff.2 hx)
    · exact Or.inr hx), fun x hx => h.due x (hp.mem_iff.2 hx), h.seen⟩

/-- A list that waited is written: it and what it told are a pair. -/
theorem good_due {ps : List (Value × Value)} {es rest fs : List Ent} {St St2 : List Nat} {rs : List Rdr} {s : Nat} {x : Ent} {L2 : List Int} {q : Value} (h : Kn.Good ⟨ps, es ++ x :: rest, fs, St, rs⟩ s) : Kn.Good ⟨ps ++ [(x.v, q)], es ++ rest, fs ++ [⟨x.v, x.n, L2, q, x.mark, x.due⟩], St2, ⟨q, x.n, L2⟩ :: rs⟩ s := by
  refine ⟨fun y hy => ?_, fun y hy => ?_, fun p hp => ?_, ?_, fun y hy => ?_, fun y hy => ?_, h.seen⟩
  · exact List.mem_cons_of_mem _ (h.wait y (by simp only [List.mem_append, List.mem_cons] at hy ⊢; rcases hy with hy | hy; exact Or.inl hy; exact Or.inr (Or.inr hy)))
  · simp only [List.mem_append, List.mem_singleton] at hy
    rcases hy with hy | rfl
    · exact List.mem_cons_of_mem _ (h.fresh y hy)
    · exact List.mem_cons_self
  · simp only [List.mem_append, List.mem_singleton] at hp
    rcases hp with hp | rfl
    · rcases h.pair p hp with ⟨n, L, h1, h2⟩ | ⟨y, h1, h2⟩
      · exact Or.inl ⟨n, L, List.mem_cons_of_mem _ h1, List.mem_cons_of_mem _ h2⟩
      · exact Or.inr ⟨y, by simp only [List.mem_append]; exact Or.inl h1, h2⟩
    · exact Or.inr ⟨_, by simp only [List.mem_append, List.mem_singleton]; exact Or.inr rfl, rfl⟩
  · have := h.few
    simp at this ⊢
    omega
  · simp only [List.mem_append, List.mem_singleton] at hy
    rcases hy with (hy | hy) | hy | hy
    · exact h.mark y (by simp [hy])
    · exact h.mark y (by simp [hy])
    · exact h.mark y (by simp [hy])
    · subst hy
      exact h.mark x (by simp)
  · exact h.due y (by simp only [List.mem_append, List.mem_cons] at hy ⊢; rcases hy with hy | hy; exact Or.inl hy; exact Or.inr (Or.inr hy))

end Go.Proofs.YtpknnamficegbaaGreatDoor

