/- Who owns which block: each block of memory that a call has made bears a label; what is done with one label's blocks leaves the others' alone. Laws of worlds, without a condition of their own. -/
import Derived.Deep.DeepAppendRoom
import Derived.Test.YtpknnamficegbaaGreatDoorCLib
set_option linter.unusedVariables false
set_option linter.unusedSimpArgs false
set_option linter.unusedSectionVars false
set_option linter.unnecessarySimpa false
namespace Go.Proofs.YtpknnamficegbaaGreatDoor
open Go.RowKit

/-- The blocks are there, made behind base, and all bear the label. -/
def At (base : Nat) (ow : Nat → Nat) (l : Nat) (w : World) (bs : List Nat) : Prop := ∀ b, b ∈ bs → base ≤ b ∧ b < w.heap.size ∧ ow b = l

/-- New labels for new blocks alone. -/
def Ext (ow ow' : Nat → Nat) (w : World) : Prop := ∀ b, b < w.heap.size → ow' b = ow b

def fresh (ow : Nat → Nat) (w : World) (l : Nat) : Nat → Nat := fun b => if b < w.heap.size then ow b else l

theorem Ext.refl (ow : Nat → Nat) (w : World) : Ext ow ow w := fun _ _ => rfl
theorem Ext.fresh (ow : Nat → Nat) (w : World) (l : Nat) : Ext ow (fresh ow w l) w := fun b hb => by simp [Go.Proofs.YtpknnamficegbaaGreatDoor.fresh, hb]
theorem Ext.trans {ow ow' ow'' : Nat → Nat} {w w' : World} (h : Ext ow ow' w) (k : Ext ow' ow'' w') (hs : w.heap.size ≤ w'.heap.size) : Ext ow ow'' w := fun b hb => (k b (Nat.lt_of_lt_of_le hb hs)).trans (h b hb)
theorem fresh_new {ow : Nat → Nat} {w : World} {l b : Nat} (h : w.heap.size ≤ b) : fresh ow w l b = l := by unfold fresh; rw [if_neg (by omega)]

theorem At.ext {base : Nat} {ow ow' : Nat → Nat} {l : Nat} {w w' : World} {bs : List Nat} (h : At base ow l w bs) (e : Ext ow ow' w) (hs : w.heap.size ≤ w'.heap.size) : At base ow' l w' bs :=
  fun b hb => by obtain ⟨h1, h2, h3⟩ := h b hb; exact ⟨h1, by omega, (e b h2).trans h3⟩

theorem At.nil (base : Nat) (ow : Nat → Nat) (l : Nat) (w : World) : At base ow l w [] := fun _ h => by cases h

theorem At.app {base : Nat} {ow : Nat → Nat} {l : Nat} {w : World} {bs cs : List Nat} (h : At base ow l w bs) (k : At base ow l w cs) : At base ow l w (bs ++ cs) :=
  fun b hb => by rcases List.mem_append.1 hb with h1 | h1; exact h b h1; exact k b h1

theorem At.sub {base : Nat} {ow : Nat → Nat} {l : Nat} {w : World} {bs cs : List Nat} (h : At base ow l w bs) (k : ∀ b, b ∈ cs → b ∈ bs) : At base ow l w cs := fun b hb => h b (k b hb)

/-- A step turns blocks of other labels alone. -/
def Off (S : List Nat) (ow : Nat → Nat) (l : Nat) (w : World) : Prop := ∀ b, b ∈ S → b < w.heap.size → ow b ≠ l

theorem Off.nil (ow : Nat → Nat) (l : Nat) (w : World) : Off [] ow l w := fun _ h => by cases h

theorem At.off {base : Nat} {ow : Nat → Nat} {l m : Nat} {w : World} {S : List Nat} (h : At base ow m w S) (hl : m ≠ l) : Off S ow l w := fun b hb _ e => hl ((h b hb).2.2.symm.trans e)

theorem At.out {base : Nat} {ow : Nat → Nat} {l : Nat} {w : World} {bs S : List Nat} (h : At base ow l w bs) (o : Off S ow l w) : ∀ b, b ∈ bs → b ∉ S := fun b hb hs => o b hs (h b hb).2.1 (h b hb).2.2

/-- A row that the call has made: a slice whose block bears the label. -/
structure RowO (base : Nat) (ow : Nat → Nat) (l : Nat) (w : World) (e : TypeId) (v : Value) (xs : List Value) : Prop where
  own : w.ownsRow base e 1 v xs.length xs
  lies : At base ow l w v.ownBlock.toList

theorem RowO.empty (base : Nat) (ow : Nat → Nat) (l : Nat) (w : World) (e : TypeId) : RowO base ow l w e (.slice none 0 0) [] := ⟨World.ownsRow_nil _ _ _ _, At.nil _ _ _ _⟩

theorem RowO.only {base : Nat} {ow ow' : Nat → Nat} {l : Nat} {w w' : World} {e : TypeId} {v : Value} {xs : List Value} {S : List Nat} (h : RowO base ow l w e v xs) (o : Only S w w') (hS : Off S ow l w) (hE : Ext ow ow' w) : RowO base ow' l w' e v xs := by
  refine ⟨⟨h.own.1, ?_⟩, h.lies.ext hE o.size⟩
  rcases h.own.2 with h1 | ⟨g, cap, cur, hv, hg, hb, hr⟩
  · exact Or.inl h1
  · exact Or.inr ⟨g, cap, cur, hv, hg, Blk.only hb o (h.lies.out hS g (by rw [hv]; simp [Value.ownBlock])), hr⟩

theorem RowO.slice {base : Nat} {ow : Nat → Nat} {l : Nat} {w : World} {e : TypeId} {v : Value} {xs : List Value} (h : RowO base ow l w e v xs) : ∃ ad cap, v = .slice ad xs.length cap := by
  rcases h.own.2 with ⟨rfl, h1⟩ | ⟨g, cap, _, rfl, _⟩
  · exact ⟨_, _, by rw [h1]⟩
  · exact ⟨_, _, rfl⟩

theorem RowO.slice' {base : Nat} {ow : Nat → Nat} {l : Nat} {w : World} {e : TypeId} {v : Value} {xs : List Value} (h : RowO base ow l w e v xs) {m : Nat} (hm : xs.length = m) : ∃ ad cap, v = .slice ad m cap := by
  subst hm; exact h.slice

theorem RowO.at {base : Nat} {ow : Nat → Nat} {l : Nat} {w : World} {e : TypeId} {ad : Option Addr} {n cap : Nat} {xs : List Value} (h : RowO base ow l w e (.slice ad n cap) xs) (hn : 0 < xs.length) :
    ∃ g, ad = some ⟨g, 0, none⟩ ∧ n = xs.length ∧ n ≤ cap ∧ cap ≤ maxLen ∧ (∀ j u, xs[j]? = some u → w.cell? ⟨g, j, none⟩ = some u) := by
  rcases h.own.2 with ⟨h0, h1⟩ | ⟨g, cap', cur, hv, hg, hb, hnc, hm, hs, ht⟩
  · omega
  · cases hv
    refine ⟨g, rfl, rfl, hnc, hm, fun j u hu => ?_⟩
    have := h.own.cells (g := g) rfl j u hu
    rwa [Addr.add_lit, Nat.zero_add] at this

/-- append to a row of the call's own, and where its block lies then: where it lay, or anew. -/
theorem run_append_own2 {P : Program} (w : World) (base : Nat) (t ty e : TypeId) (i : TypeInfo) (z : Value) (size bytes : Nat) (ht : P.underlying t = some (.slice e)) (hi : P.info? e = some i) (hz : i.zero = some z)
    (hsize : i.size = size) (hby : i.bytes = bytes) (hzs : z.cells.size = size) (hsz : 0 < size)
    (v : Value) (n : Nat) (xs : List Value) (hown : w.ownsRow base e size v n xs)
    (a : Addr) (m c : Nat) (news : List Value) (hl : news.length = m * size) (hnews : ∀ j u, news[j]? = some u → w.cell? (a.add j) = some u) (h1 : ∀ u ∈ news, u.oneCell' = true)
    (h63 : n + m ≤ maxLen) (hbytes : (n + m) * bytes ≤ 140737488355328) (hbase : base ≤ w.heap.size) :
    ∃ v' w', (Builtin.append_ #[t, t] ty #[v, .slice (some a) m c]).run P w = .ok v' w' ∧ w'.ownsRow base e size v' (n + m) (xs ++ news) ∧ w.grownBy w' v.ownBlock ∧
      (∀ k, v'.ownBlock = some k → v.ownBlock = some k ∨ w.heap.size ≤ k) := by
  obtain ⟨v', w', hr, h2, h3, _⟩ := run_append_own (P := P) w base t ty e i z size bytes ht hi hz hsize hby hzs hsz v n xs hown a m c news hl hnews h1 h63 hbytes hbase
  refine ⟨v', w', hr, h2, h3, fun k hk => ?_⟩
  rcases hown.2 with ⟨rfl, rfl⟩ | ⟨g, cap, cur, rfl, hbg, hg, hnc, hcm, hcs, htake⟩
  · have hx : xs = [] := List.eq_nil_of_length_eq_zero (by simpa using hown.1)
    subst hx
    obtain ⟨v2, w2, hr2, h22, _, _⟩ := run_append_own (P := P) w w.heap.size t ty e i z size bytes ht hi hz hsize hby hzs hsz (.slice none 0 0) 0 [] (World.ownsRow_nil _ _ _ _) a m c news hl hnews h1 h63 hbytes (Nat.le_refl _)
    rw [hr] at hr2
    cases hr2
    exact Or.inr (h22.lt k hk).1
  · by_cases hroom : n + m ≤ cap
    · obtain ⟨w2, hr2, _, _⟩ := run_append_own_spare (P := P) w base t ty e i size ht hi hsize g n cap xs hown a m c news hl hnews h1 hroom
      rw [hr] at hr2
      cases hr2
      exact Or.inl hk
    · have holds : ∀ j u, xs[j]? = some u → w.cell? ((⟨g, 0, none⟩ : Addr).add j) = some u := hown.cells (g := g) rfl
      have hr2 := run_append_grow (P := P) w t ty e i z ht hi hz ⟨g, 0, none⟩ n cap xs (by rw [hsize]; exact hown.1) holds a m c news (by rw [hsize]; exact hl) hnews (by omega) (by simp only [maxLen] at h63; omega) (growslice_fits (by omega) (by rw [hby]; exact hbytes))
      rw [hr] at hr2
      cases hr2
      simp [Value.ownBlock] at hk
      exact Or.inr (by omega)

theorem wp_append_own2 {P : Program} {w : World} {o : Oper} {a : Act} {K : Act → World → Prop} {Q : Exit → Act → World → Prop} (s x : Operand) (t : TypeId)
    (ho : o.op = .call { callee := .builtin .append, args := #[s, x], argTypes := #[t, t] })
    (base : Nat) (e : TypeId) (i : TypeInfo) (z : Value) (size bytes : Nat) (ht : P.underlying t = some (.slice e)) (hi : P.info? e = some i) (hz : i.zero = some z)
    (hsize : i.size = size) (hby : i.bytes = bytes) (hzs : z.cells.size = size) (hsz : 0 < size)
    (v : Value) (n : Nat) (xs : List Value) (hs : a.eval s = v) (hown : w.ownsRow base e size v n xs)
    (ad : Addr) (m c : Nat) (news : List Value) (hx : a.eval x = .slice (some ad) m c) (hl : news.length = m * size) (hnews : ∀ j u, news[j]? = some u → w.cell? (ad.add j) = some u) (h1 : ∀ u ∈ news, u.oneCell' = true)
    (h63 : n + m ≤ maxLen) (hbytes : (n + m) * bytes ≤ 140737488355328) (hbase : base ≤ w.heap.size)
    (h : ∀ v' w', w'.ownsRow base e size v' (n + m) (xs ++ news) → w.grownBy w' v.ownBlock → (∀ k, v'.ownBlock = some k → v.ownBlock = some k ∨ w.heap.size ≤ k) → K (a.put o.dst v') w') : o.wp P a w K Q := by
  obtain ⟨v', w', hr, h2, h3, h4⟩ := run_append_own2 (P := P) w base t o.type e i z size bytes ht hi hz hsize hby hzs hsz v n xs hown ad m c news hl hnews h1 h63 hbytes hbase
  unfold Oper.wp execOp
  simp only [ho, resolve, invoke, builtin, Sem.run_bind, Sem.run_pure, Result.andThen_ok, List.map_toArray, List.map_cons, List.map_nil, hs, hx, hr]
  exact h v' w' h2 h3 h4

/-- append of one element to a row of the call's own: the row's own word. -/
theorem RowO.append {P : Program} {w : World} {o : Oper} {a : Act} {K : Act → World → Prop} {Q : Exit → Act → World → Prop} (s x : Operand) (t : TypeId)
    (ho : o.op = .call { callee := .builtin .append, args := #[s, x], argTypes := #[t, t] })
    (base : Nat) (ow : Nat → Nat) (l : Nat) (e : TypeId) (i : TypeInfo) (z : Value) (bytes : Nat) (ht : P.underlying t = some (.slice e)) (hi : P.info? e = some i) (hz : i.zero = some z)
    (hsize : i.size = 1) (hby : i.bytes = bytes) (hzs : z.cells.size = 1)
    (v : Value) (xs : List Value) (hs : a.eval s = v) (hown : RowO base ow l w e v xs)
    (ad : Addr) (c : Nat) (u : Value) (hx : a.eval x = .slice (some ad) 1 c) (hnew : w.cell? ad = some u) (h1 : u.oneCell' = true)
    (h63 : xs.length + 1 ≤ maxLen) (hbytes : (xs.length + 1) * bytes ≤ 140737488355328) (hbase : base ≤ w.heap.size)
    (h : ∀ v' w', RowO base (fresh ow w l) l w' e v' (xs ++ [u]) → Only v.ownBlock.toList w w' → K (a.put o.dst v') w') : o.wp P a w K Q := by
  refine wp_append_own2 s x t ho base e i z 1 bytes ht hi hz hsize hby hzs (by decide) v xs.length xs hs hown.own ad 1 c [u] hx rfl ?_ (by simpa using h1) h63 hbytes hbase ?_
  · intro j u' hu
    match j, hu with
    | 0, hu => cases hu; rw [show ad.add 0 = ad from by cases ad; rfl]; exact hnew
  · intro v' w' h2 h3 h4
    have hO : Only v.ownBlock.toList w w' := Only.of_grown h3 (by intro k hk; simp [hk])
    refine h v' w' ⟨by rw [List.length_append]; exact h2, ?_⟩ hO
    intro b hb
    have hb' : v'.ownBlock = some b := by simpa using hb
    obtain ⟨h5, h6⟩ := h2.lt b hb'
    refine ⟨h5, h6, ?_⟩
    rcases h4 b hb' with h7 | h7
    · obtain ⟨_, h8, h9⟩ := hown.lies b (by simp [h7])
      unfold fresh; rw [if_pos h8, h9]
    · exact fresh_new h7

theorem RowO.appendList {P : Program} {w : World} {ops : Array Oper} {rest : List Oper} {o : Oper} {a : Act} {Q : Exit → Act → World → Prop} (hgd : o.guard = none) (s x : Operand) (t : TypeId)
    (ho : o.op = .call { callee := .builtin .append, args := #[s, x], argTypes := #[t, t] })
    (base : Nat) (ow : Nat → Nat) (l : Nat) (e : TypeId) (i : TypeInfo) (z : Value) (bytes : Nat) (ht : P.underlying t = some (.slice e)) (hi : P.info? e = some i) (hz : i.zero = some z)
    (hsize : i.size = 1) (hby : i.bytes = bytes) (hzs : z.cells.size = 1)
    (v : Value) (xs : List Value) (hs : a.eval s = v) (hown : RowO base ow l w e v xs)
    (ad : Addr) (c : Nat) (u : Value) (hx : a.eval x = .slice (some ad) 1 c) (hnew : w.cell? ad = some u) (h1 : u.oneCell' = true)
    (h63 : xs.length + 1 ≤ maxLen) (hbytes : (xs.length + 1) * bytes ≤ 140737488355328) (hbase : base ≤ w.heap.size)
    (h : ∀ v' w', RowO base (fresh ow w l) l w' e v' (xs ++ [u]) → Only v.ownBlock.toList w w' → wpList P ops Q rest (a.put o.dst v') w') : wpList P ops Q (o :: rest) a w :=
  wpList_plain hgd fun _ hK => RowO.append s x t ho base ow l e i z bytes ht hi hz hsize hby hzs v xs hs hown ad c u hx hnew h1 h63 hbytes hbase fun v' w' h2 h3 => hK _ _ (h v' w' h2 h3)

theorem RowO.appendStep {P : Program} {w : World} {ops : Array Oper} {o : Oper} {a : Act} {K : Act → World → Prop} {Q : Exit → Act → World → Prop} {E : Prop} (hgd : o.guard = none) (s x : Operand) (t : TypeId)
    (ho : o.op = .call { callee := .builtin .append, args := #[s, x], argTypes := #[t, t] })
    (base : Nat) (ow : Nat → Nat) (l : Nat) (e : TypeId) (i : TypeInfo) (z : Value) (bytes : Nat) (ht : P.underlying t = some (.slice e)) (hi : P.info? e = some i) (hz : i.zero = some z)
    (hsize : i.size = 1) (hby : i.bytes = bytes) (hzs : z.cells.size = 1)
    (v : Value) (xs : List Value) (hs : a.eval s = v) (hown : RowO base ow l w e v xs)
    (ad : Addr) (c : Nat) (u : Value) (hx : a.eval x = .slice (some ad) 1 c) (hnew : w.cell? ad = some u) (h1 : u.oneCell' = true)
    (h63 : xs.length + 1 ≤ maxLen) (hbytes : (xs.length + 1) * bytes ≤ 140737488355328) (hbase : base ≤ w.heap.size)
    (h : ∀ v' w', RowO base (fresh ow w l) l w' e v' (xs ++ [u]) → Only v.ownBlock.toList w w' → K (a.put o.dst v') w') :
    if Region.wanted o (yielded ops a.tmps) = true then Oper.wp P o a w K Q else E := by
  have hw : Region.wanted o (yielded ops a.tmps) = true := by simp [Region.wanted, hgd]
  rw [if_pos hw]
  exact RowO.append s x t ho base ow l e i z bytes ht hi hz hsize hby hzs v xs hs hown ad c u hx hnew h1 h63 hbytes hbase h

/-- Some units of one kind: each of them stands, its blocks bear its own label. -/
structure Units {U : Type} (P : World → U → Prop) (bl : U → List Nat) (base n : Nat) (ow : Nat → Nat) (w : World) (us : Nat → U) : Prop where
  each : ∀ i, i < n → P w (us i)
  lies : ∀ i, i < n → At base ow (100 + i) w (bl (us i))

/-- What is said of a unit hangs on its own blocks. -/
def Stable {U : Type} (P : World → U → Prop) (bl : U → List Nat) : Prop := ∀ w w' u S, P w u → Only S w w' → (∀ b, b ∈ bl u → b ∉ S) → P w' u

def upU {U : Type} (us : Nat → U) (k : Nat) (u : U) : Nat → U := fun j => if j = k then u else us j
theorem upU_same {U : Type} (us : Nat → U) (k : Nat) (u : U) : upU us k u k = u := by simp [upU]
theorem upU_other {U : Type} (us : Nat → U) {k j : Nat} (u : U) (h : j ≠ k) : upU us k u j = us j := by simp [upU, h]

theorem Units.none {U : Type} (P : World → U → Prop) (bl : U → List Nat) (base : Nat) (ow : Nat → Nat) (w : World) (us : Nat → U) : Units P bl base 0 ow w us := ⟨fun _ h => absurd h (Nat.not_lt_zero _), fun _ h => absurd h (Nat.not_lt_zero _)⟩

theorem Units.only {U : Type} {P : World → U → Prop} {bl : U → List Nat} (st : Stable P bl) {base n : Nat} {ow ow' : Nat → Nat} {w w' : World} {us : Nat → U} {S : List Nat} (h : Units P bl base n ow w us) (o : Only S w w') (hS : ∀ i, i < n → Off S ow (100 + i) w) (hE : Ext ow ow' w) : Units P bl base n ow' w' us :=
  ⟨fun i hi => st w w' (us i) S (h.each i hi) o ((h.lies i hi).out (hS i hi)), fun i hi => (h.lies i hi).ext hE o.size⟩

theorem Units.set {U : Type} {P : World → U → Prop} {bl : U → List Nat} (st : Stable P bl) {base n : Nat} {ow ow' : Nat → Nat} {w w' : World} {us : Nat → U} {S : List Nat} (h : Units P bl base n ow w us) (o : Only S w w') (k : Nat) (hS : ∀ b, b ∈ S → b < w.heap.size → ow b = 100 + k) (hE : Ext ow ow' w) {u : U} (hP : P w' u) (hL : At base ow' (100 + k) w' (bl u)) : Units P bl base n ow' w' (upU us k u) := by
  refine ⟨fun i hi => ?_, fun i hi => ?_⟩
  · by_cases hik : i = k
    · subst hik; rw [upU_same]; exact hP
    · rw [upU_other _ _ hik]
      exact st w w' (us i) S (h.each i hi) o ((h.lies i hi).out fun b hb hw e => hik (by have := hS b hb hw; omega))
  · by_cases hik : i = k
    · subst hik; rw [upU_same]; exact hL
    · rw [upU_other _ _ hik]; exact (h.lies i hi).ext hE o.size

theorem Units.snoc {U : Type} {P : World → U → Prop} {bl : U → List Nat} {base n : Nat} {ow : Nat → Nat} {w : World} {us : Nat → U} (h : Units P bl base n ow w us) {u : U} (hP : P w u) (hL : At base ow (100 + n) w (bl u)) : Units P bl base (n + 1) ow w (upU us n u) := by
  refine ⟨fun i hi => ?_, fun i hi => ?_⟩
  · by_cases hik : i = n
    · subst hik; rw [upU_same]; exact hP
    · rw [upU_other _ _ hik]; exact h.each i (by omega)
  · by_cases hik : i = n
    · subst hik; rw [upU_same]; exact hL
    · rw [upU_other _ _ hik]; exact h.lies i (by omega)

end Go.Proofs.YtpknnamficegbaaGreatDoor

