/- Pieces of memory that lie apart from one another: what is done to one of them leaves the others as they were. Laws of worlds, without a condition of their own. · The book of lists that were handed out: how it stands in memory. Laws of worlds; each names its conditions. · The book: its header's cells, one written at a time; the turn at which a list is due. Condition: the header stands as hdrF says. · The book: one piece of memory written anew among the others; append as a law for the walk. Each law names its conditions. · The book: what it does for the kinds of which no list was handed out. Condition: the book's header stands as hdrF says. · The book: two lists that read alike are the same. Condition: both lists stand as Rdr.At says. -/
import Derived.Deep.DeepAppendRoom
import Derived.Maps.AppendAt
import Derived.Test.YtpknnamficegbaaGreatDoorCHelp
import Derived.Test.YtpknnamficegbaaGreatDoorCOwn
import Derived.Test.YtpknnamficegbaaGreatDoorCVals
set_option linter.unusedVariables false
set_option linter.unusedSimpArgs false
set_option linter.unusedSectionVars false
set_option linter.unnecessarySimpa false
namespace Go.Proofs.YtpknnamficegbaaGreatDoor
open Go.RowKit

/-- A piece: its blocks, and what is said of it. -/
structure Pc where
  bl : List Nat
  says : World → Prop

/-- What is said hangs on the piece's own blocks alone. -/
def Pc.Ok (p : Pc) : Prop := ∀ w w' S, p.says w → Only S w w' → (∀ b, b ∈ p.bl → b ∉ S) → p.says w'

def bls (l : List Pc) : List Nat := l.flatMap Pc.bl

theorem mem_bls {l : List Pc} {b : Nat} : b ∈ bls l ↔ ∃ p, p ∈ l ∧ b ∈ p.bl := by simp [bls, List.mem_flatMap]

/-- The pieces stand, apart from one another, all of their blocks made behind base. -/
structure Star (base : Nat) (l : List Pc) (w : World) : Prop where
  holds : ∀ p, p ∈ l → p.says w
  ok : ∀ p, p ∈ l → p.Ok
  lies : ∀ b, b ∈ bls l → base ≤ b ∧ b < w.heap.size
  apart : l.Pairwise fun p q => ∀ b, b ∈ p.bl → b ∉ q.bl

/-- From one list of pieces to another: the old memory outside is as it was, new blocks are new. -/
structure Goes (l l' : List Pc) (w w' : World) : Prop where
  only : Only (bls l) w w'
  new : ∀ b, b ∈ bls l' → b ∈ bls l ∨ w.heap.size ≤ b

theorem Goes.refl (l : List Pc) (w : World) : Goes l l w w := ⟨Only.refl _ _, fun _ h => Or.inl h⟩

theorem Goes.trans {a b c : List Pc} {w1 w2 w3 : World} (h : Goes a b w1 w2) (k : Goes b c w2 w3) : Goes a c w1 w3 := by
  refine ⟨h.only.past k.only fun i hi => ?_, fun i hi => ?_⟩
  · exact h.new i hi
  · rcases k.new i hi with h1 | h1
    · exact h.new i h1
    · exact Or.inr (Nat.le_trans h.only.size h1)

section
variable {base : Nat} {l l' : List Pc} {w w' : World}

theorem Star.get (h : Star base l w) (i : Nat) {p : Pc} (hi : l[i]? = some p) : p.says w := h.holds p (List.mem_of_getElem? hi)

theorem Star.only {S : List Nat} (h : Star base l w) (o : Only S w w') (hn : ∀ b, b ∈ bls l → b ∉ S) : Star base l w' :=
  ⟨fun p hp => h.ok p hp w w' S (h.holds p hp) o (fun b hb => hn b (mem_bls.2 ⟨p, hp, hb⟩)), h.ok, fun b hb => ⟨(h.lies b hb).1, Nat.lt_of_lt_of_le (h.lies b hb).2 o.size⟩, h.apart⟩

theorem Star.plain (h : Star base l w) (o : Only [] w w') : Star base l w' := h.only o (by simp)

theorem Star.perm (h : Star base l w) (hp : l.Perm l') : Star base l' w :=
  ⟨fun p hq => h.holds p (hp.mem_iff.2 hq), fun p hq => h.ok p (hp.mem_iff.2 hq), fun b hb => h.lies b (by obtain ⟨p, h1, h2⟩ := mem_bls.1 hb; exact mem_bls.2 ⟨p, hp.mem_iff.2 h1, h2⟩), (hp.pairwise_iff (fun {p q} hpq b hb hb' => hpq b hb' hb)).1 h.apart⟩

theorem bls_perm (hp : l.Perm l') {b : Nat} : b ∈ bls l ↔ b ∈ bls l' := by
  simp only [mem_bls, hp.mem_iff]

theorem Star.tail {p : Pc} (h : Star base (p :: l) w) : Star base l w :=
  ⟨fun q hq => h.holds q (List.mem_cons_of_mem _ hq), fun q hq => h.ok q (List.mem_cons_of_mem _ hq), fun b hb => h.lies b (by simp only [bls, List.flatMap_cons, List.mem_append]; exact Or.inr hb), (List.pairwise_cons.1 h.apart).2⟩

theorem Star.head_apart {p : Pc} (h : Star base (p :: l) w) : ∀ b, b ∈ p.bl → b ∉ bls l := by
  intro b hb hm
  obtain ⟨q, hq, hbq⟩ := mem_bls.1 hm
  exact (List.pairwise_cons.1 h.apart).1 q hq b hb hbq

theorem Star.cons {p : Pc} (h : Star base l w) (hs : p.says w) (hok : p.Ok) (hl : ∀ b, b ∈ p.bl → base ≤ b ∧ b < w.heap.size) (ha : ∀ b, b ∈ p.bl → b ∉ bls l) : Star base (p :: l) w := by
  refine ⟨fun q hq => ?_, fun q hq => ?_, fun b hb => ?_, List.pairwise_cons.2 ⟨fun q hq b hb hm => ha b hb (mem_bls.2 ⟨q, hq, hm⟩), h.apart⟩⟩
  · rcases List.mem_cons.1 hq with rfl | hq
    · exact hs
    · exact h.holds q hq
  · rcases List.mem_cons.1 hq with rfl | hq
    · exact hok
    · exact h.ok q hq
  · simp only [bls, List.flatMap_cons, List.mem_append] at hb
    rcases hb with hb | hb
    · exact hl b hb
    · exact h.lies b hb

/-- The first piece is written anew. -/
theorem Star.upd_head {S : List Nat} {p p' : Pc} (h : Star base (p :: l) w) (o : Only S w w') (hS : ∀ b, b ∈ S → b ∈ p.bl ∨ w.heap.size ≤ b) (hs : p'.says w') (hok : p'.Ok) (hb : base ≤ w.heap.size)
    (hn : ∀ b, b ∈ p'.bl → (b ∈ p.bl ∨ w.heap.size ≤ b) ∧ b < w'.heap.size) : Star base (p' :: l) w' := by
  have ht := h.tail
  have ha := h.head_apart
  refine (ht.only o fun b hb hm => ?_).cons hs hok (fun b hb' => ?_) (fun b hb' hm => ?_)
  · rcases hS b hm with h1 | h1
    · exact ha b h1 hb
    · have := (ht.lies b hb).2; omega
  · obtain ⟨h1, h2⟩ := hn b hb'
    rcases h1 with h1 | h1
    · exact ⟨(h.lies b (mem_bls.2 ⟨p, List.mem_cons_self, h1⟩)).1, h2⟩
    · exact ⟨by omega, h2⟩
  · obtain ⟨h1, h2⟩ := hn b hb'
    rcases h1 with h1 | h1
    · exact ha b h1 hm
    · have := (ht.lies b hm).2; omega

theorem perm_front : ∀ (l : List Pc) (i : Nat) (p : Pc), l[i]? = some p → l.Perm (p :: l.eraseIdx i)
  | [], i, p, h => by simp at h
  | a :: l, 0, p, h => by simp at h; subst h; exact List.Perm.refl _
  | a :: l, i + 1, p, h => by
    have := perm_front l i p (by simpa using h)
    simp only [List.eraseIdx_cons_succ]
    exact (this.cons a).trans (List.Perm.swap _ _ _)

theorem perm_set : ∀ (l : List Pc) (i : Nat) (p p' : Pc), l[i]? = some p → (p' :: l.eraseIdx i).Perm (l.set i p')
  | [], i, p, p', h => by simp at h
  | a :: l, 0, p, p', h => by simp
  | a :: l, i + 1, p, p', h => by
    have := perm_set l i p p' (by simpa using h)
    simp only [List.eraseIdx_cons_succ, List.set_cons_succ]
    exact (List.Perm.swap _ _ _).trans (this.cons a)

/-- One piece is written anew. -/
theorem Star.upd {S : List Nat} {p p' : Pc} (h : Star base l w) (i : Nat) (hi : l[i]? = some p) (o : Only S w w') (hS : ∀ b, b ∈ S → b ∈ p.bl ∨ w.heap.size ≤ b) (hs : p'.says w') (hok : p'.Ok) (hb : base ≤ w.heap.size)
    (hn : ∀ b, b ∈ p'.bl → (b ∈ p.bl ∨ w.heap.size ≤ b) ∧ b < w'.heap.size) : Star base (l.set i p') w' ∧ Goes l (l.set i p') w w' := by
  have h1 := h.perm (perm_front l i p hi)
  have h2 := h1.upd_head o hS hs hok hb hn
  have hps := perm_set l i p p' hi
  refine ⟨h2.perm hps, ⟨⟨o.os, o.tape, o.output, o.size, fun k hk hkn => o.block k hk fun hm => ?_⟩, fun b hb' => ?_⟩⟩
  · rcases hS k hm with h3 | h3
    · exact hkn (mem_bls.2 ⟨p, List.mem_of_getElem? hi, h3⟩)
    · omega
  · rw [← bls_perm hps] at hb'
    simp only [bls, List.flatMap_cons, List.mem_append] at hb'
    rcases hb' with hb' | hb'
    · rcases (hn b hb').1 with h3 | h3
      · exact Or.inl (mem_bls.2 ⟨p, List.mem_of_getElem? hi, h3⟩)
      · exact Or.inr h3
    · exact Or.inl ((bls_perm (perm_front l i p hi)).2 (by simp only [bls, List.flatMap_cons, List.mem_append]; exact Or.inr hb'))

/-- A piece is set down anew at the same world: no block more than it had. -/
theorem Star.say {p p' : Pc} (h : Star base l w) (i : Nat) (hi : l[i]? = some p) (hs : p'.says w) (hok : p'.Ok) (hb : base ≤ w.heap.size) (hn : ∀ b, b ∈ p'.bl → b ∈ p.bl) : Star base (l.set i p') w ∧ Goes l (l.set i p') w w :=
  h.upd i hi (Only.refl [] w) (by simp) hs hok hb fun b hb' => ⟨Or.inl (hn b hb'), (h.lies b (mem_bls.2 ⟨p, List.mem_of_getElem? hi, hn b hb'⟩)).2⟩

/-- A new piece of new blocks. -/
theorem Star.push {p : Pc} (h : Star base l w) (o : Only [] w w') (hs : p.says w') (hok : p.Ok) (hb : base ≤ w.heap.size) (hn : ∀ b, b ∈ p.bl → w.heap.size ≤ b ∧ b < w'.heap.size) : Star base (p :: l) w' ∧ Goes l (p :: l) w w' := by
  refine ⟨(h.plain o).cons hs hok (fun b hb' => ⟨by have := (hn b hb').1; omega, (hn b hb').2⟩) (fun b hb' hm => ?_), ⟨o.mono (by simp), fun b hb' => ?_⟩⟩
  · have := (h.lies b hm).2
    have := (hn b hb').1
    omega
  · simp only [bls, List.flatMap_cons, List.mem_append] at hb'
    rcases hb' with hb' | hb'
    · exact Or.inr (hn b hb').1
    · exact Or.inl hb'

theorem Goes.drop {p : Pc} : Goes (p :: l) l w w := ⟨Only.refl _ _, fun b hb => Or.inl (by simp only [bls, List.flatMap_cons, List.mem_append]; exact Or.inr hb)⟩

theorem Goes.perm (hp : l.Perm l') : Goes l l' w w := ⟨Only.refl _ _, fun b hb => Or.inl ((bls_perm hp).2 hb)⟩

theorem Goes.plain (o : Only [] w w') : Goes l l w w' := ⟨o.mono (by simp), fun _ h => Or.inl h⟩

end

/-- A row that is somebody's own. -/
def rowPc (base : Nat) (e : TypeId) (sz : Nat) (v : Value) (n : Nat) (xs : List Value) : Pc := ⟨v.ownBlock.toList, fun w => w.ownsRow base e sz v n xs⟩

theorem rowPc_ok (base : Nat) (e : TypeId) (sz : Nat) (v : Value) (n : Nat) (xs : List Value) : (rowPc base e sz v n xs).Ok := fun _ _ _ h o hn => ownsRow_only h o fun b hb => hn b (by simp [rowPc, hb])

end Go.Proofs.YtpknnamficegbaaGreatDoor

namespace Go.Proofs.YtpknnamficegbaaGreatDoor
open Go.RowKit

def ints (L : List Int) : List Value := L.map (Value.int .i64)

/-- The nine header cells of one kind. -/
structure Hv where
  o : Value
  t : Value
  w : Value
  n : Value
  f : Value
  m : Value
  d : Value
  r : Value
  s : Nat

def hdrF (turn deep : Int) (a b : Hv) (j : Nat) : Value :=
  if j = 0 then .bool false else if j = 1 then .bool false else if j = 2 then .int .i64 turn else if j = 3 then .int .i64 deep
  else if j = 4 then a.o else if j = 5 then a.t else if j = 6 then a.w else if j = 7 then a.n else if j = 8 then a.f else if j = 9 then a.m else if j = 10 then a.d else if j = 11 then a.r else if j = 12 then .int .i64 (a.s : Nat)
  else if j = 31 then b.o else if j = 32 then b.t else if j = 33 then b.w else if j = 34 then b.n else if j = 35 then b.f else if j = 36 then b.m else if j = 37 then b.d else if j = 38 then b.r else if j = 39 then .int .i64 (b.s : Nat)
  else if (j + 5) % 9 = 8 then .int .i64 0 else .slice none 0 0

def hdrPc (kb : Nat) (turn deep : Int) (a b : Hv) : Pc := ⟨[kb], fun w => RowV w kb 103 (hdrF turn deep a b) 41⟩

theorem hdrPc_ok (kb : Nat) (turn deep : Int) (a b : Hv) : (hdrPc kb turn deep a b).Ok := fun _ _ _ h o hn => RowV.only h o (hn kb (by simp [hdrPc]))

/-- A list that waits, or was written: the list, its note (or what it told), its mark, its turn. -/
structure Ent where
  v : Value
  n : Nat
  L : List Int
  note : Value
  mark : Int
  due : Int

/-- What is read of a list that stays: its cells. -/
structure Rdr where
  v : Value
  n : Nat
  L : List Int

def Rdr.At (r : Rdr) (St : List Nat) (sz : Nat) (w : World) : Prop :=
  r.L.length = r.n * sz ∧ r.n ≤ 5000 ∧ ∃ ad cap, r.v = .slice ad r.n cap ∧ (0 < r.n → ∃ g, ad = some ⟨g, 0, none⟩ ∧ g ∈ St ∧ ∀ (j : Nat) (k : Int), r.L[j]? = some k → w.cell? ⟨g, j, none⟩ = some (.int .i64 k))

theorem Rdr.At.open {a : Value} {n : Nat} {L : List Int} {St : List Nat} {sz : Nat} {w : World} (h : (⟨a, n, L⟩ : Rdr).At St sz w) : L.length = n * sz ∧ n ≤ 5000 ∧ ∃ ad cap, a = .slice ad n cap ∧ (0 < n → ∃ g, ad = some ⟨g, 0, none⟩ ∧ g ∈ St ∧ ∀ (j : Nat) (k : Int), L[j]? = some k → w.cell? ⟨g, j, none⟩ = some (.int .i64 k)) := h

theorem Rdr.At.only {r : Rdr} {St S : List Nat} {sz : Nat} {w w' : World} (h : r.At St sz w) (o : Only S w w') (hn : ∀ b, b ∈ St → b ∉ S) : r.At St sz w' := by
  obtain ⟨h1, h2, ad, cap, hv, h3⟩ := h
  refine ⟨h1, h2, ad, cap, hv, fun hp => ?_⟩
  obtain ⟨g, hg, hs, hc⟩ := h3 hp
  exact ⟨g, hg, hs, fun j k hk => keep_off o (hn g hs) (hc j k hk)⟩

theorem Rdr.At.more {r : Rdr} {St St' : List Nat} {sz : Nat} {w : World} (h : r.At St sz w) (hs : ∀ b, b ∈ St → b ∈ St') : r.At St' sz w := by
  obtain ⟨h1, h2, ad, cap, hv, h3⟩ := h
  refine ⟨h1, h2, ad, cap, hv, fun hp => ?_⟩
  obtain ⟨g, hg, h4, hc⟩ := h3 hp
  exact ⟨g, hg, hs g h4, hc⟩

/-- The lists themselves: those that are written to yet, those that stay. -/
structure MemOk (base : Nat) (e : TypeId) (sz : Nat) (xs : List Ent) (St : List Nat) (rs : List Rdr) (w : World) : Prop where
  own : ∀ x, x ∈ xs → w.ownsRow base e sz x.v x.n (ints x.L)
  apart : xs.Pairwise fun x y => ∀ b, x.v.ownBlock = some b → y.v.ownBlock ≠ some b
  off : ∀ x, x ∈ xs → ∀ b, x.v.ownBlock = some b → b ∉ St
  rd : ∀ r, r ∈ rs → r.At St sz w

def memPc (base : Nat) (e : TypeId) (sz : Nat) (xs : List Ent) (St : List Nat) (rs : List Rdr) : Pc := ⟨xs.flatMap (fun x => x.v.ownBlock.toList) ++ St, MemOk base e sz xs St rs⟩

theorem mem_memPc {base : Nat} {e : TypeId} {sz : Nat} {xs : List Ent} {St : List Nat} {rs : List Rdr} {b : Nat} : b ∈ (memPc base e sz xs St rs).bl ↔ (∃ x, x ∈ xs ∧ x.v.ownBlock = some b) ∨ b ∈ St := by
  simp [memPc, List.mem_flatMap]

theorem memPc_ok (base : Nat) (e : TypeId) (sz : Nat) (xs : List Ent) (St : List Nat) (rs : List Rdr) : (memPc base e sz xs St rs).Ok := fun _ _ _ h o hn =>
  ⟨fun x hx => ownsRow_only (h.own x hx) o fun b hb => hn b (mem_memPc.2 (Or.inl ⟨x, hx, hb⟩)), h.apart, h.off, fun r hr => (h.rd r hr).only o fun b hb => hn b (mem_memPc.2 (Or.inr hb))⟩

section
variable {base : Nat} {e : TypeId} {sz : Nat} {xs ys : List Ent} {St : List Nat} {rs : List Rdr} {w w' : World}

theorem MemOk.perm (h : MemOk base e sz xs St rs w) (hp : xs.Perm ys) : MemOk base e sz ys St rs w :=
  ⟨fun x hx => h.own x (hp.mem_iff.2 hx), (hp.pairwise_iff (fun {p q} hpq b hb hb' => hpq b hb' hb)).1 h.apart, fun x hx => h.off x (hp.mem_iff.2 hx), h.rd⟩

/-- One list's block is written to: the list reads otherwise. -/
theorem MemOk.write {x : Ent} {L : List Int} {S : List Nat} (h : MemOk base e sz (x :: xs) St rs w) (o : Only S w w') (hS : ∀ b, b ∈ S → x.v.ownBlock = some b ∨ w.heap.size ≤ b) (hx : w'.ownsRow base e sz x.v x.n (ints L)) (hlt : ∀ b, b ∈ St → b < w.heap.size) : MemOk base e sz ({ x with L := L } :: xs) St rs w' := by
  have ha := List.pairwise_cons.1 h.apart
  refine ⟨fun y hy => ?_, List.pairwise_cons.2 ⟨ha.1, ha.2⟩, fun y hy => ?_, fun r hr => (h.rd r hr).only o fun b hb hm => ?_⟩
  · rcases List.mem_cons.1 hy with rfl | hy
    · exact hx
    · refine ownsRow_only (h.own y (List.mem_cons_of_mem _ hy)) o fun b hb hm => ?_
      rcases hS b hm with h1 | h1
      · exact ha.1 y hy b h1 hb
      · have := ((h.own y (List.mem_cons_of_mem _ hy)).lt b hb).2; omega
  · rcases List.mem_cons.1 hy with rfl | hy
    · exact h.off x List.mem_cons_self
    · exact h.off y (List.mem_cons_of_mem _ hy)
  · rcases hS b hm with h1 | h1
    · exact h.off x List.mem_cons_self b h1 hb
    · have := hlt b hb; omega

/-- A new list of one's own. -/
theorem MemOk.cons {x : Ent} (h : MemOk base e sz xs St rs w) (hx : w.ownsRow base e sz x.v x.n (ints x.L)) (ha : ∀ b, x.v.ownBlock = some b → b ∉ (memPc base e sz xs St rs).bl) : MemOk base e sz (x :: xs) St rs w := by
  refine ⟨fun y hy => ?_, List.pairwise_cons.2 ⟨fun y hy b hb hb' => ha b hb (mem_memPc.2 (Or.inl ⟨y, hy, hb'⟩)), h.apart⟩, fun y hy => ?_, h.rd⟩
  · rcases List.mem_cons.1 hy with rfl | hy
    · exact hx
    · exact h.own y hy
  · rcases List.mem_cons.1 hy with rfl | hy
    · exact fun b hb hs => ha b hb (mem_memPc.2 (Or.inr hs))
    · exact h.off y hy

/-- A new list that stays. -/
theorem MemOk.stay {r : Rdr} {T : List Nat} (h : MemOk base e sz xs St rs w) (hr : r.At T sz w) (ha : ∀ b, b ∈ T → ∀ x, x ∈ xs → x.v.ownBlock ≠ some b) : MemOk base e sz xs (T ++ St) (r :: rs) w :=
  ⟨h.own, h.apart, fun x hx b hb hs => by
    rcases List.mem_append.1 hs with h1 | h1
    · exact ha b h1 x hx hb
    · exact h.off x hx b hb h1, fun q hq => by
    rcases List.mem_cons.1 hq with rfl | hq
    · exact hr.more fun b hb => List.mem_append.2 (Or.inl hb)
    · exact (h.rd q hq).more fun b hb => List.mem_append.2 (Or.inr hb)⟩

end

/-- Two lists that read alike. -/
def Tw (rs : List Rdr) (p : Value × Value) : Prop := ∃ n L, (⟨p.1, n, L⟩ : Rdr) ∈ rs ∧ (⟨p.2, n, L⟩ : Rdr) ∈ rs

/-- One kind's lists: pairs handed out, those that wait, those written and not laid on. -/
structure Kn where
  ps : List (Value × Value)
  es : List Ent
  fs : List Ent
  St : List Nat
  rs : List Rdr

structure Kn.Good (k : Kn) (s : Nat) : Prop where
  wait : ∀ x, x ∈ k.es → (⟨x.note, x.n, x.L⟩ : Rdr) ∈ k.rs
  fresh : ∀ x, x ∈ k.fs → (⟨x.note, x.n, x.L⟩ : Rdr) ∈ k.rs
  pair : ∀ p, p ∈ k.ps → Tw k.rs p ∨ ∃ x, x ∈ k.fs ∧ p = (x.v, x.note)
  few : 2 * k.es.length + k.fs.length + k.ps.length ≤ 2 * s
  mark : ∀ x, x ∈ k.es ++ k.fs → 0 ≤ x.mark ∧ x.mark ≤ 10000000 ∧ x.n ≤ 4200
  due : ∀ x, x ∈ k.es → 0 ≤ x.due ∧ x.due ≤ 1000000
  seen : s ≤ 1000

def kin (base : Nat) (e ts : TypeId) (sz : Nat) (a : Hv) (k : Kn) : List Pc :=
  [rowPc base ts 1 a.o k.ps.length (k.ps.map Prod.fst), rowPc base ts 1 a.t k.ps.length (k.ps.map Prod.snd),
   rowPc base ts 1 a.w k.es.length (k.es.map Ent.v), rowPc base ts 1 a.n k.es.length (k.es.map Ent.note), rowPc base 3 1 a.m k.es.length (k.es.map fun x => .int .i64 x.mark), rowPc base 3 1 a.d k.es.length (k.es.map fun x => .int .i64 x.due),
   rowPc base ts 1 a.f k.fs.length (k.fs.map Ent.v), rowPc base 3 1 a.r k.fs.length (k.fs.map fun x => .int .i64 x.mark),
   memPc base e sz (k.es ++ k.fs) k.St k.rs]

/-- append to a row of one's own: where it lies then; the elder cells stay. -/
theorem run_append_own3 {P : Program} (w : World) (base : Nat) (t ty e : TypeId) (i : TypeInfo) (z : Value) (size bytes : Nat) (ht : P.underlying t = some (.slice e)) (hi : P.info? e = some i) (hz : i.zero = some z)
    (hsize : i.size = size) (hby : i.bytes = bytes) (hzs : z.cells.size = size) (hsz : 0 < size)
    (v : Value) (n : Nat) (xs : List Value) (hown : w.ownsRow base e size v n xs)
    (a : Addr) (m c : Nat) (news : List Value) (hl : news.length = m * size) (hnews : ∀ j u, news[j]? = some u → w.cell? (a.add j) = some u) (h1 : ∀ u ∈ news, u.oneCell' = true) (hm : 0 < m)
    (h63 : n + m ≤ maxLen) (hbytes : (n + m) * bytes ≤ 140737488355328) (hbase : base ≤ w.heap.size) :
    ∃ v' w', (Builtin.append_ #[t, t] ty #[v, .slice (some a) m c]).run P w = .ok v' w' ∧ w'.ownsRow base e size v' (n + m) (xs ++ news) ∧
      (v'.ownBlock = v.ownBlock ∧ Only v.ownBlock.toList w w' ∨ Only [] w w' ∧ ∀ b, v'.ownBlock = some b → w.heap.size ≤ b) := by
  obtain ⟨v', w', hr, h2, h3, _⟩ := run_append_own (P := P) w base t ty e i z size bytes ht hi hz hsize hby hzs hsz v n xs hown a m c news hl hnews h1 h63 hbytes hbase
  refine ⟨v', w', hr, h2, ?_⟩
  rcases hown.2 with ⟨rfl, rfl⟩ | ⟨g, cap, cur, rfl, hbg, hg, hnc, hcm, hcs, htake⟩
  · have hx : xs = [] := List.eq_nil_of_length_eq_zero (by simpa using hown.1)
    subst hx
    obtain ⟨v2, w2, hr2, h22, h23, _⟩ := run_append_own (P := P) w w.heap.size t ty e i z size bytes ht hi hz hsize hby hzs hsz (.slice none 0 0) 0 [] (World.ownsRow_nil _ _ _ _) a m c news hl hnews h1 h63 hbytes (Nat.le_refl _)
    rw [hr] at hr2
    cases hr2
    exact Or.inr ⟨Only.of_grown h23 (by simp [Value.ownBlock]), fun b hb => (h22.lt b hb).1⟩
  · by_cases hroom : n + m ≤ cap
    · obtain ⟨w2, hr2, _, hg2⟩ := run_append_own_spare (P := P) w base t ty e i size ht hi hsize g n cap xs hown a m c news hl hnews h1 hroom
      rw [hr] at hr2
      cases hr2
      exact Or.inl ⟨rfl, Only.of_grown hg2 (by intro k hk; simp [Value.ownBlock]; simpa using hk.symm)⟩
    · have holds : ∀ j u, xs[j]? = some u → w.cell? ((⟨g, 0, none⟩ : Addr).add j) = some u := hown.cells (g := g) rfl
      have hr2 := run_append_grow (P := P) w t ty e i z ht hi hz ⟨g, 0, none⟩ n cap xs (by rw [hsize]; exact hown.1) holds a m c news (by rw [hsize]; exact hl) hnews (by omega) (by simp only [maxLen] at h63; omega) (growslice_fits (by omega) (by rw [hby]; exact hbytes))
      rw [hr] at hr2
      cases hr2
      exact Or.inr ⟨(Only.drew [] w).trans (Only.alloc [] _ _), fun b hb => by simp [Value.ownBlock] at hb; omega⟩

end Go.Proofs.YtpknnamficegbaaGreatDoor

namespace Go.Proofs.YtpknnamficegbaaGreatDoor
open Go.RowKit

section
variable {w : World} {kb : Nat} {turn deep : Int} {a b : Hv}

theorem hdr_now (h : RowV w kb 103 (hdrF turn deep a b) 41) : w.cell? ⟨kb, 0, none⟩ = some (.bool false) ∧ w.cell? ⟨kb, 1, none⟩ = some (.bool false) ∧ w.cell? ⟨kb, 2, none⟩ = some (.int .i64 turn) ∧ w.cell? ⟨kb, 3, none⟩ = some (.int .i64 deep) := ⟨h.cell (by omega), h.cell (by omega), h.cell (by omega), h.cell (by omega)⟩

theorem hdr_turn (h : RowV w kb 103 (hdrF turn deep a b) 41) (x : Int) : RowV (w.setCell ⟨kb, 2, none⟩ (.int .i64 x)) kb 103 (hdrF x deep a b) 41 :=
  (h.set 2 _).congr fun j _ => by
    unfold updV hdrF
    by_cases e : j = 2
    · subst e; rfl
    · simp [e]

theorem hdr_deep (h : RowV w kb 103 (hdrF turn deep a b) 41) (x : Int) : RowV (w.setCell ⟨kb, 3, none⟩ (.int .i64 x)) kb 103 (hdrF turn x a b) 41 :=
  (h.set 3 _).congr fun j _ => by
    unfold updV hdrF
    by_cases e : j = 3
    · subst e; rfl
    · simp [e]

theorem hdr_bad (h : RowV w kb 103 (hdrF turn deep a b) 41) : RowV (w.setCell ⟨kb, 1, none⟩ (.bool false)) kb 103 (hdrF turn deep a b) 41 :=
  (h.set 1 _).congr fun j _ => by
    unfold updV hdrF
    by_cases e : j = 1
    · subst e; rfl
    · simp [e]

theorem hdrI_o (h : RowV w kb 103 (hdrF turn deep a b) 41) (v : Value) : RowV (w.setCell ⟨kb, 4, none⟩ v) kb 103 (hdrF turn deep { a with o := v } b) 41 :=
  (h.set 4 _).congr fun j _ => by
    unfold updV hdrF
    by_cases e : j = 4
    · subst e; rfl
    · simp [e]

theorem hdrI_t (h : RowV w kb 103 (hdrF turn deep a b) 41) (v : Value) : RowV (w.setCell ⟨kb, 5, none⟩ v) kb 103 (hdrF turn deep { a with t := v } b) 41 :=
  (h.set 5 _).congr fun j _ => by
    unfold updV hdrF
    by_cases e : j = 5
    · subst e; rfl
    · simp [e]

theorem hdrI_w (h : RowV w kb 103 (hdrF turn deep a b) 41) (v : Value) : RowV (w.setCell ⟨kb, 6, none⟩ v) kb 103 (hdrF turn deep { a with w := v } b) 41 :=
  (h.set 6 _).congr fun j _ => by
    unfold updV hdrF
    by_cases e : j = 6
    · subst e; rfl
    · simp [e]

theorem hdrI_n (h : RowV w kb 103 (hdrF turn deep a b) 41) (v : Value) : RowV (w.setCell ⟨kb, 7, none⟩ v) kb 103 (hdrF turn deep { a with n := v } b) 41 :=
  (h.set 7 _).congr fun j _ => by
    unfold updV hdrF
    by_cases e : j = 7
    · subst e; rfl
    · simp [e]

theorem hdrI_f (h : RowV w kb 103 (hdrF turn deep a b) 41) (v : Value) : RowV (w.setCell ⟨kb, 8, none⟩ v) kb 103 (hdrF turn deep { a with f := v } b) 41 :=
  (h.set 8 _).congr fun j _ => by
    unfold updV hdrF
    by_cases e : j = 8
    · subst e; rfl
    · simp [e]

theorem hdrI_m (h : RowV w kb 103 (hdrF turn deep a b) 41) (v : Value) : RowV (w.setCell ⟨kb, 9, none⟩ v) kb 103 (hdrF turn deep { a with m := v } b) 41 :=
  (h.set 9 _).congr fun j _ => by
    unfold updV hdrF
    by_cases e : j = 9
    · subst e; rfl
    · simp [e]

theorem hdrI_d (h : RowV w kb 103 (hdrF turn deep a b) 41) (v : Value) : RowV (w.setCell ⟨kb, 10, none⟩ v) kb 103 (hdrF turn deep { a with d := v } b) 41 :=
  (h.set 10 _).congr fun j _ => by
    unfold updV hdrF
    by_cases e : j = 10
    · subst e; rfl
    · simp [e]

theorem hdrI_r (h : RowV w kb 103 (hdrF turn deep a b) 41) (v : Value) : RowV (w.setCell ⟨kb, 11, none⟩ v) kb 103 (hdrF turn deep { a with r := v } b) 41 :=
  (h.set 11 _).congr fun j _ => by
    unfold updV hdrF
    by_cases e : j = 11
    · subst e; rfl
    · simp [e]

theorem hdrI_s (h : RowV w kb 103 (hdrF turn deep a b) 41) (v : Nat) : RowV (w.setCell ⟨kb, 12, none⟩ (.int .i64 (v : Nat))) kb 103 (hdrF turn deep { a with s := v } b) 41 :=
  (h.set 12 _).congr fun j _ => by
    unfold updV hdrF
    by_cases e : j = 12
    · subst e; rfl
    · simp [e]

theorem hdrS_o (h : RowV w kb 103 (hdrF turn deep a b) 41) (v : Value) : RowV (w.setCell ⟨kb, 31, none⟩ v) kb 103 (hdrF turn deep a { b with o := v }) 41 :=
  (h.set 31 _).congr fun j _ => by
    unfold updV hdrF
    by_cases e : j = 31
    · subst e; rfl
    · simp [e]

theorem hdrS_t (h : RowV w kb 103 (hdrF turn deep a b) 41) (v : Value) : RowV (w.setCell ⟨kb, 32, none⟩ v) kb 103 (hdrF turn deep a { b with t := v }) 41 :=
  (h.set 32 _).congr fun j _ => by
    unfold updV hdrF
    by_cases e : j = 32
    · subst e; rfl
    · simp [e]

theorem hdrS_w (h : RowV w kb 103 (hdrF turn deep a b) 41) (v : Value) : RowV (w.setCell ⟨kb, 33, none⟩ v) kb 103 (hdrF turn deep a { b with w := v }) 41 :=
  (h.set 33 _).congr fun j _ => by
    unfold updV hdrF
    by_cases e : j = 33
    · subst e; rfl
    · simp [e]

theorem hdrS_n (h : RowV w kb 103 (hdrF turn deep a b) 41) (v : Value) : RowV (w.setCell ⟨kb, 34, none⟩ v) kb 103 (hdrF turn deep a { b with n := v }) 41 :=
  (h.set 34 _).congr fun j _ => by
    unfold updV hdrF
    by_cases e : j = 34
    · subst e; rfl
    · simp [e]

theorem hdrS_f (h : RowV w kb 103 (hdrF turn deep a b) 41) (v : Value) : RowV (w.setCell ⟨kb, 35, none⟩ v) kb 103 (hdrF turn deep a { b with f := v }) 41 :=
  (h.set 35 _).congr fun j _ => by
    unfold updV hdrF
    by_cases e : j = 35
    · subst e; rfl
    · simp [e]

theorem hdrS_m (h : RowV w kb 103 (hdrF turn deep a b) 41) (v : Value) : RowV (w.setCell ⟨kb, 36, none⟩ v) kb 103 (hdrF turn deep a { b with m := v }) 41 :=
  (h.set 36 _).congr fun j _ => by
    unfold updV hdrF
    by_cases e : j = 36
    · subst e; rfl
    · simp [e]

theorem hdrS_d (h : RowV w kb 103 (hdrF turn deep a b) 41) (v : Value) : RowV (w.setCell ⟨kb, 37, none⟩ v) kb 103 (hdrF turn deep a { b with d := v }) 41 :=
  (h.set 37 _).congr fun j _ => by
    unfold updV hdrF
    by_cases e : j = 37
    · subst e; rfl
    · simp [e]

theorem hdrS_r (h : RowV w kb 103 (hdrF turn deep a b) 41) (v : Value) : RowV (w.setCell ⟨kb, 38, none⟩ v) kb 103 (hdrF turn deep a { b with r := v }) 41 :=
  (h.set 38 _).congr fun j _ => by
    unfold updV hdrF
    by_cases e : j = 38
    · subst e; rfl
    · simp [e]

theorem hdrS_s (h : RowV w kb 103 (hdrF turn deep a b) 41) (v : Nat) : RowV (w.setCell ⟨kb, 39, none⟩ (.int .i64 (v : Nat))) kb 103 (hdrF turn deep a { b with s := v }) 41 :=
  (h.set 39 _).congr fun j _ => by
    unfold updV hdrF
    by_cases e : j = 39
    · subst e; rfl
    · simp [e]

/-- The turn at which a list is written. -/
def DueIs (turn : Int) (w : World) (e : Ending) (w' : World) : Prop := ∃ d : Int, e = .returned (.int .i64 d) ∧ w = w' ∧ 0 ≤ d ∧ d ≤ turn + 8

set_option maxHeartbeats 400000 in
theorem bk_due (h : RowV w kb 103 (hdrF turn deep a b) 41) (n : Nat) (ht : 0 ≤ turn ∧ turn ≤ 100000) (hn : n ≤ 100000) : Calls Tryz.prog 91 #[.pointer (some ⟨kb, 0, none⟩), .int .i64 (n : Nat)] w (DueIs turn w) := by
  obtain ⟨c0, c1, c2, c3⟩ := hdr_now h
  clear h
  obtain ⟨ht0, ht1⟩ := ht
  go_enter Tryz.func91, Tryz.ntmps91
  go_wp2_with fail
  all_goals go_ret
  all_goals exact ⟨_, rfl, rfl, by omega, by omega⟩

end

end Go.Proofs.YtpknnamficegbaaGreatDoor

namespace Go.Proofs.YtpknnamficegbaaGreatDoor
open Go.RowKit

theorem info_intsT : (Tryz.prog.info? 29).map (fun i => (i.zero, i.size, i.bytes)) = some (some (.slice none 0 0), 1, 24) := by kernel_rfl

theorem info_slotsT : (Tryz.prog.info? 58).map (fun i => (i.zero, i.size, i.bytes)) = some (some (.slice none 0 0), 1, 24) := by kernel_rfl

section
variable {base : Nat} {l : List Pc} {w w1 w2 : World}

/-- A row is laid on. -/
theorem Star.row {e : TypeId} {v v' : Value} {n n' : Nat} {xs xs' : List Value} (h : Star base l w) (i : Nat) (hi : l[i]? = some (rowPc base e 1 v n xs)) (o1 : Only [] w w1) (hown : w2.ownsRow base e 1 v' n' xs') (o2 : Only v.ownBlock.toList w1 w2) (hat : ∀ b, v'.ownBlock = some b → v.ownBlock = some b ∨ w1.heap.size ≤ b) (hb : base ≤ w.heap.size) :
    Star base (l.set i (rowPc base e 1 v' n' xs')) w2 ∧ Goes l (l.set i (rowPc base e 1 v' n' xs')) w w2 :=
  h.upd (S := v.ownBlock.toList) i hi ((o1.mono (by simp)).trans o2) (fun b hb => Or.inl hb) hown (rowPc_ok _ _ _ _ _ _) hb (fun b hb => by
    have hb' : v'.ownBlock = some b := by simpa [rowPc] using hb
    refine ⟨?_, (hown.lt b hb').2⟩
    rcases hat b hb' with h1 | h1
    · exact Or.inl (by simp [rowPc, h1])
    · exact Or.inr (Nat.le_trans o1.size h1))

/-- The header is written. -/
theorem Star.hdr {kb : Nat} {turn deep turn' deep' : Int} {a b a' b' : Hv} (h : Star base l w) (i : Nat) (hi : l[i]? = some (hdrPc kb turn deep a b)) (o : Only [kb] w w1) (hw : RowV w1 kb 103 (hdrF turn' deep' a' b') 41) (hb : base ≤ w.heap.size) :
    Star base (l.set i (hdrPc kb turn' deep' a' b')) w1 ∧ Goes l (l.set i (hdrPc kb turn' deep' a' b')) w w1 :=
  h.upd (S := [kb]) i hi o (fun b hb => Or.inl (by simpa [hdrPc] using hb)) hw (hdrPc_ok _ _ _ _ _) hb (fun b hb => ⟨Or.inl (by simpa [hdrPc] using hb), by
    have : b = kb := by simpa [hdrPc] using hb
    subst this
    exact hw.lt⟩)

/-- A piece and another are one piece. -/
theorem Star.merge {p q q' : Pc} (h : Star base (p :: l) w) (i : Nat) (hi : l[i]? = some q) (hs : q'.says w) (hok : q'.Ok) (hn : ∀ b, b ∈ q'.bl → b ∈ p.bl ∨ b ∈ q.bl) : Star base (l.set i q') w ∧ Goes (p :: l) (l.set i q') w w := by
  have h1 := h.perm ((perm_front l i q hi).cons p)
  have ha1 := h1.head_apart
  have h2 := h1.tail
  have ha2 := h2.head_apart
  have hps := perm_set l i q q' hi
  have hq : ∀ b, b ∈ q.bl → b ∈ bls (q :: l.eraseIdx i) := fun b hb => mem_bls.2 ⟨q, List.mem_cons_self, hb⟩
  have ht : ∀ b, b ∈ bls (l.eraseIdx i) → b ∈ bls (q :: l.eraseIdx i) := fun b hb => by obtain ⟨p, h1, h2⟩ := mem_bls.1 hb; exact mem_bls.2 ⟨p, List.mem_cons_of_mem _ h1, h2⟩
  have hin : ∀ b, b ∈ q'.bl → b ∈ bls (p :: q :: l.eraseIdx i) := fun b hb => by
    rcases hn b hb with h3 | h3
    · exact mem_bls.2 ⟨p, List.mem_cons_self, h3⟩
    · exact mem_bls.2 ⟨q, List.mem_cons_of_mem _ List.mem_cons_self, h3⟩
  refine ⟨(h2.tail.cons hs hok (fun b hb => h1.lies b (hin b hb)) (fun b hb hm => ?_)).perm hps, ⟨Only.refl _ _, fun b hb => Or.inl ?_⟩⟩
  · rcases hn b hb with h3 | h3
    · exact ha1 b h3 (ht b hm)
    · exact ha2 b h3 hm
  · rw [← bls_perm hps] at hb
    rw [bls_perm ((perm_front l i q hi).cons p)]
    simp only [bls, List.flatMap_cons, List.mem_append] at hb
    rcases hb with hb | hb
    · exact hin b hb
    · obtain ⟨r, h3, h4⟩ := mem_bls.1 hb
      exact mem_bls.2 ⟨r, List.mem_cons_of_mem _ (List.mem_cons_of_mem _ h3), h4⟩

/-- A row is laid by, an empty one stands in its place. -/
theorem Star.lay_by {p : Pc} (h : Star base l w) (i : Nat) (hi : l[i]? = some p) {e : TypeId} : Star base (p :: l.set i (rowPc base e 1 (.slice none 0 0) 0 [])) w ∧ Goes l (p :: l.set i (rowPc base e 1 (.slice none 0 0) 0 [])) w w := by
  have h1 := h.perm (perm_front l i p hi)
  have hps := perm_set l i p (rowPc base e 1 (.slice none 0 0) 0 []) hi
  have h2 : Star base (rowPc base e 1 (.slice none 0 0) 0 [] :: p :: l.eraseIdx i) w := h1.cons (World.ownsRow_nil _ _ _ _) (rowPc_ok _ _ _ _ _ _) (by simp [rowPc, Value.ownBlock]) (by simp [rowPc, Value.ownBlock])
  have hp2 : (rowPc base e 1 (.slice none 0 0) 0 [] :: p :: l.eraseIdx i).Perm (p :: l.set i (rowPc base e 1 (.slice none 0 0) 0 [])) := (List.Perm.swap _ _ _).trans (hps.cons p)
  refine ⟨h2.perm hp2, Only.refl _ _, fun b hb => Or.inl ?_⟩
  rw [← bls_perm hp2] at hb
  rw [bls_perm (perm_front l i p hi)]
  simpa [bls, rowPc, Value.ownBlock] using hb

theorem Star.congr {l' : List Pc} (h : Star base l w) (e : l = l') : Star base l' w := e ▸ h

theorem Goes.to {a l' : List Pc} (h : Goes a l w w1) (e : l = l') : Goes a l' w w1 := e ▸ h

theorem Goes.congr {a a' : List Pc} (h : Goes a l w w1) (e : a = a') : Goes a' l w w1 := e ▸ h

end

/-- The world is given a name: of it is known how the pieces stand. -/
theorem wp_star {P : Program} {c : Code} {Q : Exit → Act → World → Prop} {a : Act} {base : Nat} {l l0 : List Pc} {w0 w : World} (h : Star base l w ∧ Goes l0 l w0 w) (k : ∀ w1, Star base l w1 → Goes l0 l w0 w1 → c.wp P Q a w1) : c.wp P Q a w := k w h.1 h.2

/-- What an append has written, where the row lies then. -/
def App3 (v v' : Value) (w w' : World) : Prop := v'.ownBlock = v.ownBlock ∧ Only v.ownBlock.toList w w' ∨ Only [] w w' ∧ ∀ b, v'.ownBlock = some b → w.heap.size ≤ b

/-- append to a row of one's own, from anywhere; where it lies then; the elder cells stay. -/
theorem run_append_any3 {P : Program} (w : World) (base : Nat) (t ty e : TypeId) (i : TypeInfo) (z : Value) (size bytes : Nat) (ht : P.underlying t = some (.slice e)) (hi : P.info? e = some i) (hz : i.zero = some z)
    (hsize : i.size = size) (hby : i.bytes = bytes) (hzs : z.cells.size = size) (hsz : 0 < size)
    (v : Value) (n : Nat) (xs : List Value) (hown : w.ownsRow base e size v n xs)
    (ao : Option Addr) (m c : Nat) (news : List Value) (hl : news.length = m * size) (hnone : ao = none → m = 0 ∧ c = 0) (hnews : ∀ ad, ao = some ad → ∀ j u, news[j]? = some u → w.cell? (ad.add j) = some u) (h1 : ∀ u ∈ news, u.oneCell' = true)
    (h63 : n + m ≤ maxLen) (hbytes : (n + m) * bytes ≤ 140737488355328) (hbase : base ≤ w.heap.size) :
    ∃ v' w', (Builtin.append_ #[t, t] ty #[v, .slice ao m c]).run P w = .ok v' w' ∧ w'.ownsRow base e size v' (n + m) (xs ++ news) ∧
      (v'.ownBlock = v.ownBlock ∧ Only v.ownBlock.toList w w' ∨ Only [] w w' ∧ ∀ b, v'.ownBlock = some b → w.heap.size ≤ b) := by
  cases ao with
  | some ad =>
    rcases Nat.eq_zero_or_pos m with hm | hm
    · subst hm
      have hn : news = [] := List.eq_nil_of_length_eq_zero (by simpa using hl)
      subst hn
      obtain ⟨v', w', hr, h2, h3, h4⟩ := run_append_own2 (P := P) w base t ty e i z size bytes ht hi hz hsize hby hzs hsz v n xs hown ad 0 c [] (by simp) (by simp) (by simp) h63 hbytes hbase
      rcases hown.2 with ⟨rfl, rfl⟩ | ⟨g, cap, cur, rfl, hbg, hg, hnc, hcm, hcs, htake⟩
      · exact ⟨v', w', hr, h2, Or.inr ⟨Only.of_grown h3 (by simp [Value.ownBlock]), fun b hb => by
          rcases h4 b hb with h5 | h5
          · cases h5
          · exact h5⟩⟩
      · obtain ⟨w2, hr2, _, hg2⟩ := run_append_own_spare (P := P) w base t ty e i size ht hi hsize g n cap xs hown ad 0 c [] (by simp) (by simp) (by simp) (by omega)
        rw [hr] at hr2
        cases hr2
        exact ⟨_, _, hr, h2, Or.inl ⟨rfl, Only.of_grown hg2 (by intro k hk; simp [Value.ownBlock]; simpa using hk.symm)⟩⟩
    · exact run_append_own3 w base t ty e i z size bytes ht hi hz hsize hby hzs hsz v n xs hown ad m c news hl (hnews ad rfl) h1 hm h63 hbytes hbase
  | none =>
    obtain ⟨rfl, rfl⟩ := hnone rfl
    have hn : news = [] := List.eq_nil_of_length_eq_zero (by simpa using hl)
    subst hn
    exact ⟨v, w, run_append_owned_none (P := P) (w := w) base t ty e i size ht hi v n xs hown, by simpa using hown, Or.inl ⟨rfl, Only.refl _ _⟩⟩

/-- The like, at the operation, whatever stands behind it. -/
theorem wp_append3 {P : Program} {w : World} {o : Oper} {a : Act} {K : Act → World → Prop} {Q : Exit → Act → World → Prop} (s x : Operand) (t : TypeId)
    (ho : o.op = .call { callee := .builtin .append, args := #[s, x], argTypes := #[t, t] })
    (base : Nat) (e : TypeId) (i : TypeInfo) (z : Value) (size bytes : Nat) (ht : P.underlying t = some (.slice e)) (hi : P.info? e = some i) (hz : i.zero = some z)
    (hsize : i.size = size) (hby : i.bytes = bytes) (hzs : z.cells.size = size) (hsz : 0 < size)
    (v : Value) (n : Nat) (xs : List Value) (hs : a.eval s = v) (hown : w.ownsRow base e size v n xs)
    (ao : Option Addr) (m c : Nat) (news : List Value) (hx : a.eval x = .slice ao m c) (hl : news.length = m * size) (hnone : ao = none → m = 0 ∧ c = 0) (hnews : ∀ ad, ao = some ad → ∀ j u, news[j]? = some u → w.cell? (ad.add j) = some u) (h1 : ∀ u ∈ news, u.oneCell' = true)
    (h63 : n + m ≤ maxLen) (hbytes : (n + m) * bytes ≤ 140737488355328) (hbase : base ≤ w.heap.size)
    (h : ∀ v' w', w'.ownsRow base e size v' (n + m) (xs ++ news) → App3 v v' w w' → K (a.put o.dst v') w') :
    Oper.wp P o a w K Q := by
  obtain ⟨v', w', hrun, h2, h3⟩ := run_append_any3 (P := P) w base t o.type e i z size bytes ht hi hz hsize hby hzs hsz v n xs hown ao m c news hl hnone hnews h1 h63 hbytes hbase
  unfold Oper.wp
  simp [execOp, ho, resolve, invoke, builtin, hs, hx, hrun, Result.andThen]
  exact h v' w' h2 h3

theorem wpList_append3 {P : Program} {w : World} {ops : Array Oper} {rest : List Oper} {o : Oper} {a : Act} {Q : Exit → Act → World → Prop} (hgd : o.guard = none) (s x : Operand) (t : TypeId)
    (ho : o.op = .call { callee := .builtin .append, args := #[s, x], argTypes := #[t, t] })
    (base : Nat) (e : TypeId) (i : TypeInfo) (z : Value) (size bytes : Nat) (ht : P.underlying t = some (.slice e)) (hi : P.info? e = some i) (hz : i.zero = some z)
    (hsize : i.size = size) (hby : i.bytes = bytes) (hzs : z.cells.size = size) (hsz : 0 < size)
    (v : Value) (n : Nat) (xs : List Value) (hs : a.eval s = v) (hown : w.ownsRow base e size v n xs)
    (ao : Option Addr) (m c : Nat) (news : List Value) (hx : a.eval x = .slice ao m c) (hl : news.length = m * size) (hnone : ao = none → m = 0 ∧ c = 0) (hnews : ∀ ad, ao = some ad → ∀ j u, news[j]? = some u → w.cell? (ad.add j) = some u) (h1 : ∀ u ∈ news, u.oneCell' = true)
    (h63 : n + m ≤ maxLen) (hbytes : (n + m) * bytes ≤ 140737488355328) (hbase : base ≤ w.heap.size)
    (h : ∀ v' w', w'.ownsRow base e size v' (n + m) (xs ++ news) → App3 v v' w w' → wpList P ops Q rest (a.put o.dst v') w') :
    wpList P ops Q (o :: rest) a w :=
  wpList_plain hgd fun _ hK => wp_append3 s x t ho base e i z size bytes ht hi hz hsize hby hzs hsz v n xs hs hown ao m c news hx hl hnone hnews h1 h63 hbytes hbase fun v' w' h2 h3 => hK _ _ (h v' w' h2 h3)

theorem step_append3 {P : Program} {w : World} {ops : Array Oper} {o : Oper} {a : Act} {K : Act → World → Prop} {Q : Exit → Act → World → Prop} {E : Prop} (hgd : o.guard = none) (s x : Operand) (t : TypeId)
    (ho : o.op = .call { callee := .builtin .append, args := #[s, x], argTypes := #[t, t] })
    (base : Nat) (e : TypeId) (i : TypeInfo) (z : Value) (size bytes : Nat) (ht : P.underlying t = some (.slice e)) (hi : P.info? e = some i) (hz : i.zero = some z)
    (hsize : i.size = size) (hby : i.bytes = bytes) (hzs : z.cells.size = size) (hsz : 0 < size)
    (v : Value) (n : Nat) (xs : List Value) (hs : a.eval s = v) (hown : w.ownsRow base e size v n xs)
    (ao : Option Addr) (m c : Nat) (news : List Value) (hx : a.eval x = .slice ao m c) (hl : news.length = m * size) (hnone : ao = none → m = 0 ∧ c = 0) (hnews : ∀ ad, ao = some ad → ∀ j u, news[j]? = some u → w.cell? (ad.add j) = some u) (h1 : ∀ u ∈ news, u.oneCell' = true)
    (h63 : n + m ≤ maxLen) (hbytes : (n + m) * bytes ≤ 140737488355328) (hbase : base ≤ w.heap.size)
    (h : ∀ v' w', w'.ownsRow base e size v' (n + m) (xs ++ news) → App3 v v' w w' → K (a.put o.dst v') w') :
    if Region.wanted o (yielded ops a.tmps) = true then Oper.wp P o a w K Q else E := by
  have hw : Region.wanted o (yielded ops a.tmps) = true := by simp [Region.wanted, hgd]
  rw [if_pos hw]
  exact wp_append3 s x t ho base e i z size bytes ht hi hz hsize hby hzs hsz v n xs hs hown ao m c news hx hl hnone hnews h1 h63 hbytes hbase h

/-- A row as a source of an append. -/
theorem own_src {w : World} {base sz n cap : Nat} {e : TypeId} {ad : Option Addr} {xs : List Value} (h : w.ownsRow base e sz (.slice ad n cap) n xs) : (ad = none → n = 0 ∧ cap = 0) ∧ ∀ a, ad = some a → ∀ j u, xs[j]? = some u → w.cell? (a.add j) = some u := by
  rcases h.2 with ⟨hv, h1⟩ | ⟨g, cap', cur, hv, _⟩
  · cases hv
    exact ⟨fun _ => ⟨rfl, rfl⟩, fun a e => by cases e⟩
  · cases hv
    refine ⟨fun e => (by cases e), fun a e => ?_⟩
    cases e
    exact h.cells (g := g) rfl

theorem ownsRow_one {w : World} {base sz n : Nat} {e : TypeId} {v : Value} {xs : List Value} (h : w.ownsRow base e sz v n xs) : v.oneCell' = true := by
  obtain ⟨ad, cap, rfl⟩ := own_slice_any h
  rfl

theorem rdr_own {w : World} {base sz n : Nat} {e : TypeId} {v : Value} {L : List Int} (h : w.ownsRow base e sz v n (ints L)) (hn : n ≤ 5000) : (⟨v, n, L⟩ : Rdr).At v.ownBlock.toList sz w := by
  have hl : L.length = n * sz := by simpa [ints] using h.1
  rcases h.2 with ⟨rfl, h1⟩ | ⟨g, cap', cur, rfl, hg, hb, hr⟩
  · subst h1
    exact ⟨hl, hn, _, _, rfl, fun h2 => absurd h2 (Nat.lt_irrefl 0)⟩
  · refine ⟨hl, hn, _, _, rfl, fun _ => ⟨g, rfl, by simp [Value.ownBlock], fun j k hk => ?_⟩⟩
    have := h.cells (g := g) rfl j (.int .i64 k) (by simp only [ints, List.getElem?_map]; rw [show L[j]? = some k from hk]; rfl)
    rwa [Addr.add_lit, Nat.zero_add] at this

/-- A copy is made: it stays. -/
theorem Star.note {base : Nat} {l : List Pc} {w w' : World} {e : TypeId} {sz n : Nat} {xs : List Ent} {St : List Nat} {rs : List Rdr} {v : Value} {L : List Int} (h : Star base l w) (i : Nat) (hi : l[i]? = some (memPc base e sz xs St rs)) (o : Only [] w w') (hown : w'.ownsRow w.heap.size e sz v n (ints L)) (hn : n ≤ 5000) (hb : base ≤ w.heap.size) :
    Star base (l.set i (memPc base e sz xs (v.ownBlock.toList ++ St) (⟨v, n, L⟩ :: rs))) w' ∧ Goes l (l.set i (memPc base e sz xs (v.ownBlock.toList ++ St) (⟨v, n, L⟩ :: rs))) w w' := by
  have hm : MemOk base e sz xs St rs w := h.get i hi
  have hm' : MemOk base e sz xs St rs w' := memPc_ok _ _ _ _ _ _ _ _ _ hm o (by simp)
  have hlt : ∀ b, v.ownBlock = some b → w.heap.size ≤ b := fun b hb => (hown.lt b hb).1
  have hold : ∀ b, b ∈ (memPc base e sz xs St rs).bl → b < w.heap.size := fun b hb => (h.lies b (mem_bls.2 ⟨_, List.mem_of_getElem? hi, hb⟩)).2
  refine h.upd (S := []) i hi o (by simp) (hm'.stay (rdr_own hown hn) fun b hb x hx hxb => ?_) (memPc_ok _ _ _ _ _ _) hb (fun b hb => ?_)
  · have := hlt b (by simpa using hb)
    have := hold b (mem_memPc.2 (Or.inl ⟨x, hx, hxb⟩))
    omega
  · rcases mem_memPc.1 hb with h1 | h1
    · have h2 := mem_memPc (rs := rs) (base := base) (e := e) (sz := sz) (St := St).2 (Or.inl h1)
      exact ⟨Or.inl h2, Nat.lt_of_lt_of_le (hold b h2) o.size⟩
    · rcases List.mem_append.1 h1 with h1 | h1
      · have h2 : v.ownBlock = some b := by simpa using h1
        exact ⟨Or.inr (hlt b h2), (hown.lt b h2).2⟩
      · have h2 := mem_memPc (rs := rs) (base := base) (e := e) (sz := sz) (xs := xs).2 (Or.inr h1)
        exact ⟨Or.inl h2, Nat.lt_of_lt_of_le (hold b h2) o.size⟩

/-- Behind such an append: what was written, and where the row lies. -/
theorem app3 {v v' : Value} {w w' : World} (h : App3 v v' w w') : Only v.ownBlock.toList w w' ∧ ∀ b, v'.ownBlock = some b → v.ownBlock = some b ∨ w.heap.size ≤ b := by
  rcases h with ⟨h1, h2⟩ | ⟨h1, h2⟩
  · exact ⟨h2, fun b hb => Or.inl (h1 ▸ hb)⟩
  · exact ⟨h1.mono (by simp), fun b hb => Or.inr (h2 b hb)⟩

end Go.Proofs.YtpknnamficegbaaGreatDoor

namespace Go.Proofs.YtpknnamficegbaaGreatDoor
open Go.RowKit

theorem RowV.anew {w : World} {b N : Nat} {f : Nat → Value} {T : TypeId} (h : RowV w b N f T) (k : Nat) {v : Value} (hv : f k = v) : RowV (w.setCell ⟨b, k, none⟩ v) b N f T :=
  (h.set k v).congr fun j _ => by
    unfold updV
    by_cases e : j = k
    · subst e; rw [if_pos rfl, hv]
    · rw [if_neg e]

section
variable {w : World} {kb : Nat} {turn deep : Int} {a b : Hv}

set_option maxRecDepth 100000 in
set_option maxHeartbeats 400000 in
theorem bkmark_Texts (h : RowV w kb 103 (hdrF turn deep a b) 41) : Calls Tryz.prog 133 #[.pointer (some ⟨kb, 0, none⟩)] w fun e w' => e = .returned (.tuple #[]) ∧ w = w' := by
  have c2 : w.cell? ⟨kb, 15, none⟩ = some (.slice none 0 0) := h.cell (by omega)
  have c3 : w.cell? ⟨kb, 16, none⟩ = some (.slice none 0 0) := h.cell (by omega)
  have c5 : w.cell? ⟨kb, 18, none⟩ = some (.slice none 0 0) := h.cell (by omega)
  have c6 : w.cell? ⟨kb, 19, none⟩ = some (.slice none 0 0) := h.cell (by omega)
  clear h
  go_enter Tryz.func133, Tryz.ntmps133
  go_wp2_with fail
  refine bodyPost_ret (results_none rfl _ _ _) rfl ?_
  exact ⟨rfl, rfl⟩

set_option maxRecDepth 100000 in
set_option maxHeartbeats 400000 in
theorem bkgrow_Texts (h : RowV w kb 103 (hdrF turn deep a b) 41) : Calls Tryz.prog 144 #[.pointer (some ⟨kb, 0, none⟩)] w fun e w' => e = .returned (.tuple #[]) ∧ RowV w' kb 103 (hdrF turn deep a b) 41 ∧ Only [kb] w w' := by
  have c4 : w.cell? ⟨kb, 17, none⟩ = some (.slice none 0 0) := h.cell (by omega)
  have f4 : w.frozen? ⟨kb, 17, none⟩ = false := h.free _
  have c7 : w.cell? ⟨kb, 20, none⟩ = some (.slice none 0 0) := h.cell (by omega)
  have f7 : w.frozen? ⟨kb, 20, none⟩ = false := h.free _
  have HB := Lib.hid (show RowV ((w.setCell ⟨kb, 17, none⟩ (.slice none 0 0)).setCell ⟨kb, 20, none⟩ (.slice none 0 0)) kb 103 (hdrF turn deep a b) 41 ∧ Only [kb] w ((w.setCell ⟨kb, 17, none⟩ (.slice none 0 0)).setCell ⟨kb, 20, none⟩ (.slice none 0 0)) from ⟨(h.anew 17 rfl).anew 20 rfl, (Only.setCell w (by simp) _).trans (Only.setCell _ (by simp) _)⟩)
  clear h
  go_enter Tryz.func144, Tryz.ntmps144
  go_wp2_with fail
  go_loopg [2] 0 (fun gk s2 wr => s2 = .int .i64 0 ∧ wr = w)
  case atStart => exact ⟨rfl, rfl⟩
  case round =>
    obtain ⟨rfl, rfl⟩ := hrel
    go_wp2_with fail
    go_end0
    exact ⟨rfl, HB.out⟩

set_option maxRecDepth 100000 in
set_option maxHeartbeats 400000 in
theorem bkhold_Texts (h : RowV w kb 103 (hdrF turn deep a b) 41) : Calls Tryz.prog 43 #[.pointer (some ⟨kb, 0, none⟩)] w fun e w' => e = .returned (.bool true) ∧ w = w' := by
  have c0 : w.cell? ⟨kb, 13, none⟩ = some (.slice none 0 0) := h.cell (by omega)
  have c2 : w.cell? ⟨kb, 15, none⟩ = some (.slice none 0 0) := h.cell (by omega)
  clear h
  go_enter Tryz.func43, Tryz.ntmps43
  go_wp2_with fail
  go_loopg [3] 0 (fun gk s3 wr => s3 = .int .i64 0 ∧ wr = w)
  case atStart => exact ⟨rfl, rfl⟩
  case round =>
    obtain ⟨rfl, rfl⟩ := hrel
    go_wp2_with fail
    go_loopg [4] 0 (fun gk s4 W => s4 = .int .i64 0 ∧ W = wr)
    case atStart => exact ⟨rfl, rfl⟩
    case round =>
      obtain ⟨rfl, rfl⟩ := hrel
      go_wp2_with fail
      go_ret
      exact ⟨rfl, rfl⟩

set_option maxRecDepth 100000 in
set_option maxHeartbeats 400000 in
theorem bkmark_Pairs (h : RowV w kb 103 (hdrF turn deep a b) 41) : Calls Tryz.prog 134 #[.pointer (some ⟨kb, 0, none⟩)] w fun e w' => e = .returned (.tuple #[]) ∧ w = w' := by
  have c2 : w.cell? ⟨kb, 24, none⟩ = some (.slice none 0 0) := h.cell (by omega)
  have c3 : w.cell? ⟨kb, 25, none⟩ = some (.slice none 0 0) := h.cell (by omega)
  have c5 : w.cell? ⟨kb, 27, none⟩ = some (.slice none 0 0) := h.cell (by omega)
  have c6 : w.cell? ⟨kb, 28, none⟩ = some (.slice none 0 0) := h.cell (by omega)
  clear h
  go_enter Tryz.func134, Tryz.ntmps134
  go_wp2_with fail
  refine bodyPost_ret (results_none rfl _ _ _) rfl ?_
  exact ⟨rfl, rfl⟩

set_option maxRecDepth 100000 in
set_option maxHeartbeats 400000 in
theorem bkgrow_Pairs (h : RowV w kb 103 (hdrF turn deep a b) 41) : Calls Tryz.prog 145 #[.pointer (some ⟨kb, 0, none⟩)] w fun e w' => e = .returned (.tuple #[]) ∧ RowV w' kb 103 (hdrF turn deep a b) 41 ∧ Only [kb] w w' := by
  have c4 : w.cell? ⟨kb, 26, none⟩ = some (.slice none 0 0) := h.cell (by omega)
  have f4 : w.frozen? ⟨kb, 26, none⟩ = false := h.free _
  have c7 : w.cell? ⟨kb, 29, none⟩ = some (.slice none 0 0) := h.cell (by omega)
  have f7 : w.frozen? ⟨kb, 29, none⟩ = false := h.free _
  have HB := Lib.hid (show RowV ((w.setCell ⟨kb, 26, none⟩ (.slice none 0 0)).setCell ⟨kb, 29, none⟩ (.slice none 0 0)) kb 103 (hdrF turn deep a b) 41 ∧ Only [kb] w ((w.setCell ⟨kb, 26, none⟩ (.slice none 0 0)).setCell ⟨kb, 29, none⟩ (.slice none 0 0)) from ⟨(h.anew 26 rfl).anew 29 rfl, (Only.setCell w (by simp) _).trans (Only.setCell _ (by simp) _)⟩)
  clear h
  go_enter Tryz.func145, Tryz.ntmps145
  go_wp2_with fail
  go_loopg [2] 0 (fun gk s2 wr => s2 = .int .i64 0 ∧ wr = w)
  case atStart => exact ⟨rfl, rfl⟩
  case round =>
    obtain ⟨rfl, rfl⟩ := hrel
    go_wp2_with fail
    go_end0
    exact ⟨rfl, HB.out⟩

set_option maxRecDepth 100000 in
set_option maxHeartbeats 400000 in
theorem bkhold_Pairs (h : RowV w kb 103 (hdrF turn deep a b) 41) : Calls Tryz.prog 44 #[.pointer (some ⟨kb, 0, none⟩)] w fun e w' => e = .returned (.bool true) ∧ w = w' := by
  have c0 : w.cell? ⟨kb, 22, none⟩ = some (.slice none 0 0) := h.cell (by omega)
  have c2 : w.cell? ⟨kb, 24, none⟩ = some (.slice none 0 0) := h.cell (by omega)
  clear h
  go_enter Tryz.func44, Tryz.ntmps44
  go_wp2_with fail
  go_loopg [3] 0 (fun gk s3 wr => s3 = .int .i64 0 ∧ wr = w)
  case atStart => exact ⟨rfl, rfl⟩
  case round =>
    obtain ⟨rfl, rfl⟩ := hrel
    go_wp2_with fail
    go_loopg [4] 0 (fun gk s4 W => s4 = .int .i64 0 ∧ W = wr)
    case atStart => exact ⟨rfl, rfl⟩
    case round =>
      obtain ⟨rfl, rfl⟩ := hrel
      go_wp2_with fail
      go_ret
      exact ⟨rfl, rfl⟩

set_option maxRecDepth 100000 in
set_option maxHeartbeats 400000 in
theorem bkmark_Changes (h : RowV w kb 103 (hdrF turn deep a b) 41) : Calls Tryz.prog 136 #[.pointer (some ⟨kb, 0, none⟩)] w fun e w' => e = .returned (.tuple #[]) ∧ w = w' := by
  have c2 : w.cell? ⟨kb, 42, none⟩ = some (.slice none 0 0) := h.cell (by omega)
  have c3 : w.cell? ⟨kb, 43, none⟩ = some (.slice none 0 0) := h.cell (by omega)
  have c5 : w.cell? ⟨kb, 45, none⟩ = some (.slice none 0 0) := h.cell (by omega)
  have c6 : w.cell? ⟨kb, 46, none⟩ = some (.slice none 0 0) := h.cell (by omega)
  clear h
  go_enter Tryz.func136, Tryz.ntmps136
  go_wp2_with fail
  refine bodyPost_ret (results_none rfl _ _ _) rfl ?_
  exact ⟨rfl, rfl⟩

set_option maxRecDepth 100000 in
set_option maxHeartbeats 400000 in
theorem bkgrow_Changes (h : RowV w kb 103 (hdrF turn deep a b) 41) : Calls Tryz.prog 147 #[.pointer (some ⟨kb, 0, none⟩)] w fun e w' => e = .returned (.tuple #[]) ∧ RowV w' kb 103 (hdrF turn deep a b) 41 ∧ Only [kb] w w' := by
  have c4 : w.cell? ⟨kb, 44, none⟩ = some (.slice none 0 0) := h.cell (by omega)
  have f4 : w.frozen? ⟨kb, 44, none⟩ = false := h.free _
  have c7 : w.cell? ⟨kb, 47, none⟩ = some (.slice none 0 0) := h.cell (by omega)
  have f7 : w.frozen? ⟨kb, 47, none⟩ = false := h.free _
  have HB := Lib.hid (show RowV ((w.setCell ⟨kb, 44, none⟩ (.slice none 0 0)).setCell ⟨kb, 47, none⟩ (.slice none 0 0)) kb 103 (hdrF turn deep a b) 41 ∧ Only [kb] w ((w.setCell ⟨kb, 44, none⟩ (.slice none 0 0)).setCell ⟨kb, 47, none⟩ (.slice none 0 0)) from ⟨(h.anew 44 rfl).anew 47 rfl, (Only.setCell w (by simp) _).trans (Only.setCell _ (by simp) _)⟩)
  clear h
  go_enter Tryz.func147, Tryz.ntmps147
  go_wp2_with fail
  go_loopg [2] 0 (fun gk s2 wr => s2 = .int .i64 0 ∧ wr = w)
  case atStart => exact ⟨rfl, rfl⟩
  case round =>
    obtain ⟨rfl, rfl⟩ := hrel
    go_wp2_with fail
    go_end0
    exact ⟨rfl, HB.out⟩

set_option maxRecDepth 100000 in
set_option maxHeartbeats 400000 in
theorem bkhold_Changes (h : RowV w kb 103 (hdrF turn deep a b) 41) : Calls Tryz.prog 46 #[.pointer (some ⟨kb, 0, none⟩)] w fun e w' => e = .returned (.bool true) ∧ w = w' := by
  have c0 : w.cell? ⟨kb, 40, none⟩ = some (.slice none 0 0) := h.cell (by omega)
  have c2 : w.cell? ⟨kb, 42, none⟩ = some (.slice none 0 0) := h.cell (by omega)
  clear h
  go_enter Tryz.func46, Tryz.ntmps46
  go_wp2_with fail
  go_loopg [3] 0 (fun gk s3 wr => s3 = .int .i64 0 ∧ wr = w)
  case atStart => exact ⟨rfl, rfl⟩
  case round =>
    obtain ⟨rfl, rfl⟩ := hrel
    go_wp2_with fail
    go_loopg [4] 0 (fun gk s4 W => s4 = .int .i64 0 ∧ W = wr)
    case atStart => exact ⟨rfl, rfl⟩
    case round =>
      obtain ⟨rfl, rfl⟩ := hrel
      go_wp2_with fail
      go_ret
      exact ⟨rfl, rfl⟩

set_option maxRecDepth 100000 in
set_option maxHeartbeats 400000 in
theorem bkmark_Opens (h : RowV w kb 103 (hdrF turn deep a b) 41) : Calls Tryz.prog 137 #[.pointer (some ⟨kb, 0, none⟩)] w fun e w' => e = .returned (.tuple #[]) ∧ w = w' := by
  have c2 : w.cell? ⟨kb, 51, none⟩ = some (.slice none 0 0) := h.cell (by omega)
  have c3 : w.cell? ⟨kb, 52, none⟩ = some (.slice none 0 0) := h.cell (by omega)
  have c5 : w.cell? ⟨kb, 54, none⟩ = some (.slice none 0 0) := h.cell (by omega)
  have c6 : w.cell? ⟨kb, 55, none⟩ = some (.slice none 0 0) := h.cell (by omega)
  clear h
  go_enter Tryz.func137, Tryz.ntmps137
  go_wp2_with fail
  refine bodyPost_ret (results_none rfl _ _ _) rfl ?_
  exact ⟨rfl, rfl⟩

set_option maxRecDepth 100000 in
set_option maxHeartbeats 400000 in
theorem bkgrow_Opens (h : RowV w kb 103 (hdrF turn deep a b) 41) : Calls Tryz.prog 148 #[.pointer (some ⟨kb, 0, none⟩)] w fun e w' => e = .returned (.tuple #[]) ∧ RowV w' kb 103 (hdrF turn deep a b) 41 ∧ Only [kb] w w' := by
  have c4 : w.cell? ⟨kb, 53, none⟩ = some (.slice none 0 0) := h.cell (by omega)
  have f4 : w.frozen? ⟨kb, 53, none⟩ = false := h.free _
  have c7 : w.cell? ⟨kb, 56, none⟩ = some (.slice none 0 0) := h.cell (by omega)
  have f7 : w.frozen? ⟨kb, 56, none⟩ = false := h.free _
  have HB := Lib.hid (show RowV ((w.setCell ⟨kb, 53, none⟩ (.slice none 0 0)).setCell ⟨kb, 56, none⟩ (.slice none 0 0)) kb 103 (hdrF turn deep a b) 41 ∧ Only [kb] w ((w.setCell ⟨kb, 53, none⟩ (.slice none 0 0)).setCell ⟨kb, 56, none⟩ (.slice none 0 0)) from ⟨(h.anew 53 rfl).anew 56 rfl, (Only.setCell w (by simp) _).trans (Only.setCell _ (by simp) _)⟩)
  clear h
  go_enter Tryz.func148, Tryz.ntmps148
  go_wp2_with fail
  go_loopg [2] 0 (fun gk s2 wr => s2 = .int .i64 0 ∧ wr = w)
  case atStart => exact ⟨rfl, rfl⟩
  case round =>
    obtain ⟨rfl, rfl⟩ := hrel
    go_wp2_with fail
    go_end0
    exact ⟨rfl, HB.out⟩

set_option maxRecDepth 100000 in
set_option maxHeartbeats 400000 in
theorem bkhold_Opens (h : RowV w kb 103 (hdrF turn deep a b) 41) : Calls Tryz.prog 47 #[.pointer (some ⟨kb, 0, none⟩)] w fun e w' => e = .returned (.bool true) ∧ w = w' := by
  have c0 : w.cell? ⟨kb, 49, none⟩ = some (.slice none 0 0) := h.cell (by omega)
  have c2 : w.cell? ⟨kb, 51, none⟩ = some (.slice none 0 0) := h.cell (by omega)
  clear h
  go_enter Tryz.func47, Tryz.ntmps47
  go_wp2_with fail
  go_loopg [3] 0 (fun gk s3 wr => s3 = .int .i64 0 ∧ wr = w)
  case atStart => exact ⟨rfl, rfl⟩
  case round =>
    obtain ⟨rfl, rfl⟩ := hrel
    go_wp2_with fail
    go_loopg [4] 0 (fun gk s4 W => s4 = .int .i64 0 ∧ W = wr)
    case atStart => exact ⟨rfl, rfl⟩
    case round =>
      obtain ⟨rfl, rfl⟩ := hrel
      go_wp2_with fail
      go_ret
      exact ⟨rfl, rfl⟩

set_option maxRecDepth 100000 in
set_option maxHeartbeats 400000 in
theorem bkmark_Lists (h : RowV w kb 103 (hdrF turn deep a b) 41) : Calls Tryz.prog 138 #[.pointer (some ⟨kb, 0, none⟩)] w fun e w' => e = .returned (.tuple #[]) ∧ w = w' := by
  have c2 : w.cell? ⟨kb, 60, none⟩ = some (.slice none 0 0) := h.cell (by omega)
  have c3 : w.cell? ⟨kb, 61, none⟩ = some (.slice none 0 0) := h.cell (by omega)
  have c5 : w.cell? ⟨kb, 63, none⟩ = some (.slice none 0 0) := h.cell (by omega)
  have c6 : w.cell? ⟨kb, 64, none⟩ = some (.slice none 0 0) := h.cell (by omega)
  clear h
  go_enter Tryz.func138, Tryz.ntmps138
  go_wp2_with fail
  refine bodyPost_ret (results_none rfl _ _ _) rfl ?_
  exact ⟨rfl, rfl⟩

set_option maxRecDepth 100000 in
set_option maxHeartbeats 400000 in
theorem bkgrow_Lists (h : RowV w kb 103 (hdrF turn deep a b) 41) : Calls Tryz.prog 149 #[.pointer (some ⟨kb, 0, none⟩)] w fun e w' => e = .returned (.tuple #[]) ∧ RowV w' kb 103 (hdrF turn deep a b) 41 ∧ Only [kb] w w' := by
  have c4 : w.cell? ⟨kb, 62, none⟩ = some (.slice none 0 0) := h.cell (by omega)
  have f4 : w.frozen? ⟨kb, 62, none⟩ = false := h.free _
  have c7 : w.cell? ⟨kb, 65, none⟩ = some (.slice none 0 0) := h.cell (by omega)
  have f7 : w.frozen? ⟨kb, 65, none⟩ = false := h.free _
  have HB := Lib.hid (show RowV ((w.setCell ⟨kb, 62, none⟩ (.slice none 0 0)).setCell ⟨kb, 65, none⟩ (.slice none 0 0)) kb 103 (hdrF turn deep a b) 41 ∧ Only [kb] w ((w.setCell ⟨kb, 62, none⟩ (.slice none 0 0)).setCell ⟨kb, 65, none⟩ (.slice none 0 0)) from ⟨(h.anew 62 rfl).anew 65 rfl, (Only.setCell w (by simp) _).trans (Only.setCell _ (by simp) _)⟩)
  clear h
  go_enter Tryz.func149, Tryz.ntmps149
  go_wp2_with fail
  go_loopg [2] 0 (fun gk s2 wr => s2 = .int .i64 0 ∧ wr = w)
  case atStart => exact ⟨rfl, rfl⟩
  case round =>
    obtain ⟨rfl, rfl⟩ := hrel
    go_wp2_with fail
    go_end0
    exact ⟨rfl, HB.out⟩

set_option maxRecDepth 100000 in
set_option maxHeartbeats 400000 in
theorem bkhold_Lists (h : RowV w kb 103 (hdrF turn deep a b) 41) : Calls Tryz.prog 48 #[.pointer (some ⟨kb, 0, none⟩)] w fun e w' => e = .returned (.bool true) ∧ w = w' := by
  have c0 : w.cell? ⟨kb, 58, none⟩ = some (.slice none 0 0) := h.cell (by omega)
  have c2 : w.cell? ⟨kb, 60, none⟩ = some (.slice none 0 0) := h.cell (by omega)
  clear h
  go_enter Tryz.func48, Tryz.ntmps48
  go_wp2_with fail
  go_loopg [3] 0 (fun gk s3 wr => s3 = .int .i64 0 ∧ wr = w)
  case atStart => exact ⟨rfl, rfl⟩
  case round =>
    obtain ⟨rfl, rfl⟩ := hrel
    go_wp2_with fail
    go_loopg [4] 0 (fun gk s4 W => s4 = .int .i64 0 ∧ W = wr)
    case atStart => exact ⟨rfl, rfl⟩
    case round =>
      obtain ⟨rfl, rfl⟩ := hrel
      go_wp2_with fail
      go_ret
      exact ⟨rfl, rfl⟩

set_option maxRecDepth 100000 in
set_option maxHeartbeats 400000 in
theorem bkmark_Answers (h : RowV w kb 103 (hdrF turn deep a b) 41) : Calls Tryz.prog 139 #[.pointer (some ⟨kb, 0, none⟩)] w fun e w' => e = .returned (.tuple #[]) ∧ w = w' := by
  have c2 : w.cell? ⟨kb, 69, none⟩ = some (.slice none 0 0) := h.cell (by omega)
  have c3 : w.cell? ⟨kb, 70, none⟩ = some (.slice none 0 0) := h.cell (by omega)
  have c5 : w.cell? ⟨kb, 72, none⟩ = some (.slice none 0 0) := h.cell (by omega)
  have c6 : w.cell? ⟨kb, 73, none⟩ = some (.slice none 0 0) := h.cell (by omega)
  clear h
  go_enter Tryz.func139, Tryz.ntmps139
  go_wp2_with fail
  refine bodyPost_ret (results_none rfl _ _ _) rfl ?_
  exact ⟨rfl, rfl⟩

set_option maxRecDepth 100000 in
set_option maxHeartbeats 400000 in
theorem bkgrow_Answers (h : RowV w kb 103 (hdrF turn deep a b) 41) : Calls Tryz.prog 150 #[.pointer (some ⟨kb, 0, none⟩)] w fun e w' => e = .returned (.tuple #[]) ∧ RowV w' kb 103 (hdrF turn deep a b) 41 ∧ Only [kb] w w' := by
  have c4 : w.cell? ⟨kb, 71, none⟩ = some (.slice none 0 0) := h.cell (by omega)
  have f4 : w.frozen? ⟨kb, 71, none⟩ = false := h.free _
  have c7 : w.cell? ⟨kb, 74, none⟩ = some (.slice none 0 0) := h.cell (by omega)
  have f7 : w.frozen? ⟨kb, 74, none⟩ = false := h.free _
  have HB := Lib.hid (show RowV ((w.setCell ⟨kb, 71, none⟩ (.slice none 0 0)).setCell ⟨kb, 74, none⟩ (.slice none 0 0)) kb 103 (hdrF turn deep a b) 41 ∧ Only [kb] w ((w.setCell ⟨kb, 71, none⟩ (.slice none 0 0)).setCell ⟨kb, 74, none⟩ (.slice none 0 0)) from ⟨(h.anew 71 rfl).anew 74 rfl, (Only.setCell w (by simp) _).trans (Only.setCell _ (by simp) _)⟩)
  clear h
  go_enter Tryz.func150, Tryz.ntmps150
  go_wp2_with fail
  go_loopg [2] 0 (fun gk s2 wr => s2 = .int .i64 0 ∧ wr = w)
  case atStart => exact ⟨rfl, rfl⟩
  case round =>
    obtain ⟨rfl, rfl⟩ := hrel
    go_wp2_with fail
    go_end0
    exact ⟨rfl, HB.out⟩

set_option maxRecDepth 100000 in
set_option maxHeartbeats 400000 in
theorem bkhold_Answers (h : RowV w kb 103 (hdrF turn deep a b) 41) : Calls Tryz.prog 49 #[.pointer (some ⟨kb, 0, none⟩)] w fun e w' => e = .returned (.bool true) ∧ w = w' := by
  have c0 : w.cell? ⟨kb, 67, none⟩ = some (.slice none 0 0) := h.cell (by omega)
  have c2 : w.cell? ⟨kb, 69, none⟩ = some (.slice none 0 0) := h.cell (by omega)
  clear h
  go_enter Tryz.func49, Tryz.ntmps49
  go_wp2_with fail
  go_loopg [3] 0 (fun gk s3 wr => s3 = .int .i64 0 ∧ wr = w)
  case atStart => exact ⟨rfl, rfl⟩
  case round =>
    obtain ⟨rfl, rfl⟩ := hrel
    go_wp2_with fail
    go_loopg [4] 0 (fun gk s4 W => s4 = .int .i64 0 ∧ W = wr)
    case atStart => exact ⟨rfl, rfl⟩
    case round =>
      obtain ⟨rfl, rfl⟩ := hrel
      go_wp2_with fail
      go_ret
      exact ⟨rfl, rfl⟩

set_option maxRecDepth 100000 in
set_option maxHeartbeats 400000 in
theorem bkmark_AnswerLists (h : RowV w kb 103 (hdrF turn deep a b) 41) : Calls Tryz.prog 140 #[.pointer (some ⟨kb, 0, none⟩)] w fun e w' => e = .returned (.tuple #[]) ∧ w = w' := by
  have c2 : w.cell? ⟨kb, 78, none⟩ = some (.slice none 0 0) := h.cell (by omega)
  have c3 : w.cell? ⟨kb, 79, none⟩ = some (.slice none 0 0) := h.cell (by omega)
  have c5 : w.cell? ⟨kb, 81, none⟩ = some (.slice none 0 0) := h.cell (by omega)
  have c6 : w.cell? ⟨kb, 82, none⟩ = some (.slice none 0 0) := h.cell (by omega)
  clear h
  go_enter Tryz.func140, Tryz.ntmps140
  go_wp2_with fail
  refine bodyPost_ret (results_none rfl _ _ _) rfl ?_
  exact ⟨rfl, rfl⟩

set_option maxRecDepth 100000 in
set_option maxHeartbeats 400000 in
theorem bkgrow_AnswerLists (h : RowV w kb 103 (hdrF turn deep a b) 41) : Calls Tryz.prog 151 #[.pointer (some ⟨kb, 0, none⟩)] w fun e w' => e = .returned (.tuple #[]) ∧ RowV w' kb 103 (hdrF turn deep a b) 41 ∧ Only [kb] w w' := by
  have c4 : w.cell? ⟨kb, 80, none⟩ = some (.slice none 0 0) := h.cell (by omega)
  have f4 : w.frozen? ⟨kb, 80, none⟩ = false := h.free _
  have c7 : w.cell? ⟨kb, 83, none⟩ = some (.slice none 0 0) := h.cell (by omega)
  have f7 : w.frozen? ⟨kb, 83, none⟩ = false := h.free _
  have HB := Lib.hid (show RowV ((w.setCell ⟨kb, 80, none⟩ (.slice none 0 0)).setCell ⟨kb, 83, none⟩ (.slice none 0 0)) kb 103 (hdrF turn deep a b) 41 ∧ Only [kb] w ((w.setCell ⟨kb, 80, none⟩ (.slice none 0 0)).setCell ⟨kb, 83, none⟩ (.slice none 0 0)) from ⟨(h.anew 80 rfl).anew 83 rfl, (Only.setCell w (by simp) _).trans (Only.setCell _ (by simp) _)⟩)
  clear h
  go_enter Tryz.func151, Tryz.ntmps151
  go_wp2_with fail
  go_loopg [2] 0 (fun gk s2 wr => s2 = .int .i64 0 ∧ wr = w)
  case atStart => exact ⟨rfl, rfl⟩
  case round =>
    obtain ⟨rfl, rfl⟩ := hrel
    go_wp2_with fail
    go_end0
    exact ⟨rfl, HB.out⟩

set_option maxRecDepth 100000 in
set_option maxHeartbeats 400000 in
theorem bkhold_AnswerLists (h : RowV w kb 103 (hdrF turn deep a b) 41) : Calls Tryz.prog 50 #[.pointer (some ⟨kb, 0, none⟩)] w fun e w' => e = .returned (.bool true) ∧ w = w' := by
  have c0 : w.cell? ⟨kb, 76, none⟩ = some (.slice none 0 0) := h.cell (by omega)
  have c2 : w.cell? ⟨kb, 78, none⟩ = some (.slice none 0 0) := h.cell (by omega)
  clear h
  go_enter Tryz.func50, Tryz.ntmps50
  go_wp2_with fail
  go_loopg [3] 0 (fun gk s3 wr => s3 = .int .i64 0 ∧ wr = w)
  case atStart => exact ⟨rfl, rfl⟩
  case round =>
    obtain ⟨rfl, rfl⟩ := hrel
    go_wp2_with fail
    go_loopg [4] 0 (fun gk s4 W => s4 = .int .i64 0 ∧ W = wr)
    case atStart => exact ⟨rfl, rfl⟩
    case round =>
      obtain ⟨rfl, rfl⟩ := hrel
      go_wp2_with fail
      go_ret
      exact ⟨rfl, rfl⟩

set_option maxRecDepth 100000 in
set_option maxHeartbeats 400000 in
theorem bkmark_Calls (h : RowV w kb 103 (hdrF turn deep a b) 41) : Calls Tryz.prog 141 #[.pointer (some ⟨kb, 0, none⟩)] w fun e w' => e = .returned (.tuple #[]) ∧ w = w' := by
  have c2 : w.cell? ⟨kb, 87, none⟩ = some (.slice none 0 0) := h.cell (by omega)
  have c3 : w.cell? ⟨kb, 88, none⟩ = some (.slice none 0 0) := h.cell (by omega)
  have c5 : w.cell? ⟨kb, 90, none⟩ = some (.slice none 0 0) := h.cell (by omega)
  have c6 : w.cell? ⟨kb, 91, none⟩ = some (.slice none 0 0) := h.cell (by omega)
  clear h
  go_enter Tryz.func141, Tryz.ntmps141
  go_wp2_with fail
  refine bodyPost_ret (results_none rfl _ _ _) rfl ?_
  exact ⟨rfl, rfl⟩

set_option maxRecDepth 100000 in
set_option maxHeartbeats 400000 in
theorem bkgrow_Calls (h : RowV w kb 103 (hdrF turn deep a b) 41) : Calls Tryz.prog 152 #[.pointer (some ⟨kb, 0, none⟩)] w fun e w' => e = .returned (.tuple #[]) ∧ RowV w' kb 103 (hdrF turn deep a b) 41 ∧ Only [kb] w w' := by
  have c4 : w.cell? ⟨kb, 89, none⟩ = some (.slice none 0 0) := h.cell (by omega)
  have f4 : w.frozen? ⟨kb, 89, none⟩ = false := h.free _
  have c7 : w.cell? ⟨kb, 92, none⟩ = some (.slice none 0 0) := h.cell (by omega)
  have f7 : w.frozen? ⟨kb, 92, none⟩ = false := h.free _
  have HB := Lib.hid (show RowV ((w.setCell ⟨kb, 89, none⟩ (.slice none 0 0)).setCell ⟨kb, 92, none⟩ (.slice none 0 0)) kb 103 (hdrF turn deep a b) 41 ∧ Only [kb] w ((w.setCell ⟨kb, 89, none⟩ (.slice none 0 0)).setCell ⟨kb, 92, none⟩ (.slice none 0 0)) from ⟨(h.anew 89 rfl).anew 92 rfl, (Only.setCell w (by simp) _).trans (Only.setCell _ (by simp) _)⟩)
  clear h
  go_enter Tryz.func152, Tryz.ntmps152
  go_wp2_with fail
  go_loopg [2] 0 (fun gk s2 wr => s2 = .int .i64 0 ∧ wr = w)
  case atStart => exact ⟨rfl, rfl⟩
  case round =>
    obtain ⟨rfl, rfl⟩ := hrel
    go_wp2_with fail
    go_end0
    exact ⟨rfl, HB.out⟩

set_option maxRecDepth 100000 in
set_option maxHeartbeats 400000 in
theorem bkhold_Calls (h : RowV w kb 103 (hdrF turn deep a b) 41) : Calls Tryz.prog 51 #[.pointer (some ⟨kb, 0, none⟩)] w fun e w' => e = .returned (.bool true) ∧ w = w' := by
  have c0 : w.cell? ⟨kb, 85, none⟩ = some (.slice none 0 0) := h.cell (by omega)
  have c2 : w.cell? ⟨kb, 87, none⟩ = some (.slice none 0 0) := h.cell (by omega)
  clear h
  go_enter Tryz.func51, Tryz.ntmps51
  go_wp2_with fail
  go_loopg [3] 0 (fun gk s3 wr => s3 = .int .i64 0 ∧ wr = w)
  case atStart => exact ⟨rfl, rfl⟩
  case round =>
    obtain ⟨rfl, rfl⟩ := hrel
    go_wp2_with fail
    go_loopg [4] 0 (fun gk s4 W => s4 = .int .i64 0 ∧ W = wr)
    case atStart => exact ⟨rfl, rfl⟩
    case round =>
      obtain ⟨rfl, rfl⟩ := hrel
      go_wp2_with fail
      go_ret
      exact ⟨rfl, rfl⟩

set_option maxRecDepth 100000 in
set_option maxHeartbeats 400000 in
theorem bkmark_CallLists (h : RowV w kb 103 (hdrF turn deep a b) 41) : Calls Tryz.prog 142 #[.pointer (some ⟨kb, 0, none⟩)] w fun e w' => e = .returned (.tuple #[]) ∧ w = w' := by
  have c2 : w.cell? ⟨kb, 96, none⟩ = some (.slice none 0 0) := h.cell (by omega)
  have c3 : w.cell? ⟨kb, 97, none⟩ = some (.slice none 0 0) := h.cell (by omega)
  have c5 : w.cell? ⟨kb, 99, none⟩ = some (.slice none 0 0) := h.cell (by omega)
  have c6 : w.cell? ⟨kb, 100, none⟩ = some (.slice none 0 0) := h.cell (by omega)
  clear h
  go_enter Tryz.func142, Tryz.ntmps142
  go_wp2_with fail
  refine bodyPost_ret (results_none rfl _ _ _) rfl ?_
  exact ⟨rfl, rfl⟩

set_option maxRecDepth 100000 in
set_option maxHeartbeats 400000 in
theorem bkgrow_CallLists (h : RowV w kb 103 (hdrF turn deep a b) 41) : Calls Tryz.prog 153 #[.pointer (some ⟨kb, 0, none⟩)] w fun e w' => e = .returned (.tuple #[]) ∧ RowV w' kb 103 (hdrF turn deep a b) 41 ∧ Only [kb] w w' := by
  have c4 : w.cell? ⟨kb, 98, none⟩ = some (.slice none 0 0) := h.cell (by omega)
  have f4 : w.frozen? ⟨kb, 98, none⟩ = false := h.free _
  have c7 : w.cell? ⟨kb, 101, none⟩ = some (.slice none 0 0) := h.cell (by omega)
  have f7 : w.frozen? ⟨kb, 101, none⟩ = false := h.free _
  have HB := Lib.hid (show RowV ((w.setCell ⟨kb, 98, none⟩ (.slice none 0 0)).setCell ⟨kb, 101, none⟩ (.slice none 0 0)) kb 103 (hdrF turn deep a b) 41 ∧ Only [kb] w ((w.setCell ⟨kb, 98, none⟩ (.slice none 0 0)).setCell ⟨kb, 101, none⟩ (.slice none 0 0)) from ⟨(h.anew 98 rfl).anew 101 rfl, (Only.setCell w (by simp) _).trans (Only.setCell _ (by simp) _)⟩)
  clear h
  go_enter Tryz.func153, Tryz.ntmps153
  go_wp2_with fail
  go_loopg [2] 0 (fun gk s2 wr => s2 = .int .i64 0 ∧ wr = w)
  case atStart => exact ⟨rfl, rfl⟩
  case round =>
    obtain ⟨rfl, rfl⟩ := hrel
    go_wp2_with fail
    go_end0
    exact ⟨rfl, HB.out⟩

set_option maxRecDepth 100000 in
set_option maxHeartbeats 400000 in
theorem bkhold_CallLists (h : RowV w kb 103 (hdrF turn deep a b) 41) : Calls Tryz.prog 52 #[.pointer (some ⟨kb, 0, none⟩)] w fun e w' => e = .returned (.bool true) ∧ w = w' := by
  have c0 : w.cell? ⟨kb, 94, none⟩ = some (.slice none 0 0) := h.cell (by omega)
  have c2 : w.cell? ⟨kb, 96, none⟩ = some (.slice none 0 0) := h.cell (by omega)
  clear h
  go_enter Tryz.func52, Tryz.ntmps52
  go_wp2_with fail
  go_loopg [3] 0 (fun gk s3 wr => s3 = .int .i64 0 ∧ wr = w)
  case atStart => exact ⟨rfl, rfl⟩
  case round =>
    obtain ⟨rfl, rfl⟩ := hrel
    go_wp2_with fail
    go_loopg [4] 0 (fun gk s4 W => s4 = .int .i64 0 ∧ W = wr)
    case atStart => exact ⟨rfl, rfl⟩
    case round =>
      obtain ⟨rfl, rfl⟩ := hrel
      go_wp2_with fail
      go_ret
      exact ⟨rfl, rfl⟩

end

end Go.Proofs.YtpknnamficegbaaGreatDoor

namespace Go.Proofs.YtpknnamficegbaaGreatDoor
open Go.RowKit

set_option maxRecDepth 100000 in
set_option maxHeartbeats 400000 in
theorem bk_same_ints {w : World} {a b : Value} {n : Nat} {L : List Int} {St : List Nat} (ha : (⟨a, n, L⟩ : Rdr).At St 1 w) (hb : (⟨b, n, L⟩ : Rdr).At St 1 w) :
    Calls Tryz.prog 93 #[a, b] w fun e w' => e = .returned (.bool true) ∧ w = w' := by
  obtain ⟨hl, hn, a1, c1, rfl, h1⟩ := ha.open
  obtain ⟨_, _, a2, c2, rfl, h2⟩ := hb.open
  have H1 := Lib.hid h1
  have H2 := Lib.hid h2
  have HL := Lib.hid hl
  clear h1 h2 hl
  go_enter Tryz.func93, Tryz.ntmps93
  go_wp2_with fail
  go_loopg [5, 6, 7] n (fun gk s5 s6 s7 wr => ∃ i : Nat, i + gk = n ∧ s5 = .int .i64 i ∧ w = wr)
  case atStart => exact ⟨0, by omega, rfl, rfl⟩
  case round =>
    obtain ⟨i, hi, rfl, rfl⟩ := hrel
    by_cases hlt : i < n
    · obtain ⟨g1, rfl, _, hc1⟩ := H1.out (by omega)
      obtain ⟨g2, rfl, _, hc2⟩ := H2.out (by omega)
      obtain ⟨k, hk⟩ : ∃ k, L[i]? = some k := ⟨_, List.getElem?_eq_getElem (by have := HL.out; omega)⟩
      have d1 := hc1 i k hk
      have d2 := hc2 i k hk
      have HI := Lib.hid hi
      have hii : (i : Int) < n := by omega
      clear hc1 hc2 hk hi
      go_wp2_with fail
      go_roundg (gk - 1)
      case measure => have := HI.out; omega
      case rel => exact ⟨i + 1, by have := HI.out; omega, by go_num, rfl⟩
    · have hin : i = n := by omega
      subst hin
      clear hi hlt
      go_wp2_with fail
      go_ret
      exact ⟨rfl, rfl⟩

theorem bk_same_ints_o {w : World} {a b : Value} {n : Nat} {L : List Int} {St : List Nat} (ha : (⟨a, n, L⟩ : Rdr).At St 1 w) (hb : (⟨b, n, L⟩ : Rdr).At St 1 w) :
    Calls Tryz.prog 93 #[a, b] w fun e w' => e = .returned (.bool true) ∧ Only [] w w' :=
  (bk_same_ints ha hb).mono fun _ _ h => ⟨h.1, h.2 ▸ Only.refl _ _⟩

theorem seven {L : List Int} {n i : Nat} (hl : L.length = n * 7) (hi : i < n) : ∃ k0 k1 k2 k3 k4 k5 k6 : Int, L[i * 7]? = some k0 ∧ L[i * 7 + 1]? = some k1 ∧ L[i * 7 + 2]? = some k2 ∧ L[i * 7 + 3]? = some k3 ∧ L[i * 7 + 4]? = some k4 ∧ L[i * 7 + 5]? = some k5 ∧ L[i * 7 + 6]? = some k6 :=
  ⟨_, _, _, _, _, _, _, List.getElem?_eq_getElem (by omega), List.getElem?_eq_getElem (by omega), List.getElem?_eq_getElem (by omega), List.getElem?_eq_getElem (by omega), List.getElem?_eq_getElem (by omega), List.getElem?_eq_getElem (by omega), List.getElem?_eq_getElem (by omega)⟩

set_option maxRecDepth 100000 in
set_option maxHeartbeats 1000000 in
theorem bk_same_slots {w : World} {a b : Value} {n : Nat} {L : List Int} {St : List Nat} (ha : (⟨a, n, L⟩ : Rdr).At St 7 w) (hb : (⟨b, n, L⟩ : Rdr).At St 7 w) :
    Calls Tryz.prog 96 #[a, b] w fun e w' => e = .returned (.bool true) ∧ Only [] w w' := by
  obtain ⟨hl, hn, a1, c1, rfl, h1⟩ := ha.open
  obtain ⟨_, _, a2, c2, rfl, h2⟩ := hb.open
  have H1 := Lib.hid h1
  have H2 := Lib.hid h2
  have HL := Lib.hid hl
  clear h1 h2 hl
  go_enter Tryz.func96, Tryz.ntmps96
  go_wp2_with fail
  go_loopg [5, 6, 7] n (fun gk s5 s6 s7 wr => ∃ i : Nat, i + gk = n ∧ s5 = .int .i64 i ∧ Only [] w wr)
  case atStart => exact ⟨0, by omega, rfl, Only.refl _ _⟩
  case round =>
    obtain ⟨i, hi, rfl, hO⟩ := hrel
    by_cases hlt : i < n
    · obtain ⟨g1, rfl, _, hc1⟩ := H1.out (by omega)
      obtain ⟨g2, rfl, _, hc2⟩ := H2.out (by omega)
      obtain ⟨k0, k1, k2, k3, k4, k5, k6, e0, e1, e2, e3, e4, e5, e6⟩ := seven HL.out hlt
      have p0 := keep_cell hO (hc1 _ _ e0)
      have p1 := keep_cell hO (hc1 _ _ e1)
      have p2 := keep_cell hO (hc1 _ _ e2)
      have p3 := keep_cell hO (hc1 _ _ e3)
      have p4 := keep_cell hO (hc1 _ _ e4)
      have p5 := keep_cell hO (hc1 _ _ e5)
      have p6 := keep_cell hO (hc1 _ _ e6)
      have q0 := keep_cell hO (hc2 _ _ e0)
      have q1 := keep_cell hO (hc2 _ _ e1)
      have q2 := keep_cell hO (hc2 _ _ e2)
      have q3 := keep_cell hO (hc2 _ _ e3)
      have q4 := keep_cell hO (hc2 _ _ e4)
      have q5 := keep_cell hO (hc2 _ _ e5)
      have q6 := keep_cell hO (hc2 _ _ e6)
      have l1 := cell_lt p0
      have l2 := cell_lt q0
      have HI := Lib.hid hi
      have HO := Lib.hid hO
      have hii : (i : Int) < n := by omega
      clear hc1 hc2 hi e0 e1 e2 e3 e4 e5 e6 hO
      go_wp2_with fail
      go_roundg (gk - 1)
      case measure => have := HI.out; omega
      case rel => exact ⟨i + 1, by have := HI.out; omega, by go_num, (HO.out.trans (Only.alloc _ _ _)).trans (Only.alloc _ _ _)⟩
    · have hin : i = n := by omega
      subst hin
      have HO := Lib.hid hO
      clear hi hlt hO
      go_wp2_with fail
      go_ret
      exact ⟨rfl, HO.out⟩

end Go.Proofs.YtpknnamficegbaaGreatDoor

