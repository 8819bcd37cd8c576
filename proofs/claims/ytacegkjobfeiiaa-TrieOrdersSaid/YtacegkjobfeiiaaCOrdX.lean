/- Rows of pairs made in another order, and with keys taken out: plain laws, no program in sight. · Two maps in one pool, turned in turns, old nodes given back at once: Put, Drop, Undo as calls. Conditions: what the structures say. · Two maps and the variable that holds their roots: what stands in TrieOrders' loops. Plain laws. Conditions: named in the structures. -/
import Derived.Test.YtacegkjobfeiiaaCPlain
import Derived.Test.YtacegkjobfeiiaaCTellX
set_option linter.unusedVariables false
set_option linter.unusedSimpArgs false
set_option linter.unusedSectionVars false
set_option linter.unnecessarySimpa false
namespace Go.Proofs.Ytacegkjobfeiiaa
open Tr

theorem rising_sub : ∀ {l : List KV} {p : KV → Bool}, rising l → rising (l.filter p)
  | [], _, _ => trivial
  | a :: l, p, h => by
    have hr := rising_sub (p := p) h.2
    by_cases hp : p a
    · rw [List.filter_cons_of_pos hp]
      exact ⟨fun b hb => h.1 b ((List.mem_filter.1 hb).1), hr⟩
    · rw [List.filter_cons_of_neg hp]
      exact hr

theorem rising_ins {l : List KV} (h : rising l) (k v : Int) : rising (ins l k v) := by
  unfold ins
  refine rising_append.2 ⟨rising_sub h, ⟨fun b hb => ?_, rising_sub h⟩, fun x hx y hy => ?_⟩
  · have := (List.mem_filter.1 hb).2; simpa using this
  · have h1 := (List.mem_filter.1 hx).2
    simp only [decide_eq_true_eq] at h1
    rcases List.mem_cons.1 hy with rfl | hy
    · exact h1
    · have h2 := (List.mem_filter.1 hy).2
      simp only [decide_eq_true_eq] at h2
      omega

theorem rising_withL {l : List KV} (h : rising l) (k v : Int) : rising (withL l k v) := by rw [withL_ins h]; exact rising_ins h k v
theorem rising_lessL {l : List KV} (h : rising l) (k : Int) : rising (lessL l k) := by rw [lessL_del h]; exact rising_sub h

theorem filter_three : ∀ (l : List KV) (k : Int), (∀ x, x ∈ l → x.1 ≠ k) → (l.filter (fun x => decide (x.1 < k)) ++ l.filter (fun x => decide (k < x.1))).Perm l
  | [], _, _ => List.Perm.nil
  | a :: l, k, h => by
    have ih := filter_three l k (fun x hx => h x (by simp [hx]))
    have ha := h a (by simp)
    by_cases hlt : a.1 < k
    · have h2 : ¬ k < a.1 := by omega
      simp only [List.filter_cons, hlt, h2, decide_true, decide_false, if_true, if_false, List.cons_append, Bool.false_eq_true]
      exact ih.cons a
    · have h2 : k < a.1 := by omega
      simp only [List.filter_cons, hlt, h2, decide_true, decide_false, if_true, if_false, Bool.false_eq_true]
      exact List.perm_middle.trans (ih.cons a)

theorem withL_perm {l : List KV} (h : rising l) {k v : Int} (hk : ∀ x, x ∈ l → x.1 ≠ k) : (withL l k v).Perm ((k, v) :: l) := by
  rw [withL_ins h]
  unfold ins
  exact List.perm_middle.trans ((filter_three l k hk).cons _)

theorem rising_perm : ∀ {a b : List KV}, rising a → rising b → a.Perm b → a = b
  | [], b, _, _, h => h.nil_eq
  | x :: a, [], _, _, h => absurd h.length_eq (by simp)
  | x :: a, y :: b, ha, hb, h => by
    have hx : x ∈ y :: b := h.mem_iff.1 (by simp)
    have hy : y ∈ x :: a := h.mem_iff.2 (by simp)
    have e : x = y := by
      rcases List.mem_cons.1 hx with e | hx
      · exact e
      · rcases List.mem_cons.1 hy with e | hy
        · exact e.symm
        · have h1 := ha.1 y hy
          have h2 := hb.1 x hx
          omega
    subst e
    rw [rising_perm ha.2 hb.2 (List.Perm.cons_inv h)]

/-- A row made of pairs, one behind the other. -/
def bag (K : List KV) : List KV := K.foldl (fun l x => withL l x.1 x.2) []

theorem bag_snoc (K : List KV) (x : KV) : bag (K ++ [x]) = withL (bag K) x.1 x.2 := by unfold bag; rw [List.foldl_append]; rfl

theorem bag_rising : ∀ K : List KV, rising (bag K) := by
  intro K
  have : ∀ (K l : List KV), rising l → rising (K.foldl (fun l x => withL l x.1 x.2) l) := by
    intro K
    induction K with
    | nil => intro l h; exact h
    | cons x K ih => intro l h; exact ih _ (rising_withL h _ _)
  exact this K [] trivial

/-- Each key once. -/
def Apart (K : List KV) : Prop := K.Pairwise fun x y => x.1 ≠ y.1

theorem Apart.perm {K K' : List KV} (h : Apart K) (p : K.Perm K') : Apart K' := (p.pairwise_iff (fun {_ _} hne => Ne.symm hne)).1 h

theorem bag_fold : ∀ (K l : List KV), rising l → Apart K → (∀ x, x ∈ K → ∀ y, y ∈ l → y.1 ≠ x.1) → (K.foldl (fun l x => withL l x.1 x.2) l).Perm (K ++ l)
  | [], l, _, _, _ => List.Perm.refl _
  | x :: K, l, h, ha, hd => by
    obtain ⟨h1, h2⟩ := List.pairwise_cons.1 ha
    have hp := withL_perm h (k := x.1) (v := x.2) (fun y hy => hd x (by simp) y hy)
    have ih := bag_fold K (withL l x.1 x.2) (rising_withL h _ _) h2 (fun z hz y hy => by
      rcases List.mem_cons.1 (hp.mem_iff.1 hy) with rfl | hy
      · exact h1 z hz
      · exact hd z (by simp [hz]) y hy)
    refine ih.trans ?_
    refine (List.Perm.append_left K hp).trans ?_
    exact List.perm_middle

theorem bag_perm {K : List KV} (h : Apart K) : (bag K).Perm K := by
  have := bag_fold K [] trivial h (fun _ _ y hy => by simp at hy)
  simpa [bag] using this

theorem bag_same {K K' : List KV} (h : Apart K) (p : K.Perm K') : bag K = bag K' :=
  rising_perm (bag_rising K) (bag_rising K') ((bag_perm h).trans (p.trans (bag_perm (h.perm p)).symm))

/-- The other order: turned round, and turned on. -/
def turned (K : List KV) (b : Nat) : List KV := (K.take b).reverse ++ (K.drop b).reverse

theorem turned_perm (K : List KV) (b : Nat) : K.Perm (turned K b) := by
  unfold turned
  have h : (K.take b ++ K.drop b).Perm ((K.take b).reverse ++ (K.drop b).reverse) := (List.reverse_perm _).symm.append (List.reverse_perm _).symm
  rwa [List.take_append_drop] at h

theorem turned_length (K : List KV) (b : Nat) : (turned K b).length = K.length := (turned_perm K b).length_eq.symm

theorem turned_at {K : List KV} {b i : Nat} (hb : b < K.length) (hi : i < K.length) : (turned K b)[i]? = K[(K.length - 1 - i + b) % K.length]? := by
  unfold turned
  have hl : (K.take b).reverse.length = b := by simp; omega
  by_cases h : i < b
  · rw [List.getElem?_append_left (by omega), List.getElem?_reverse (by simp; omega)]
    have e : (K.length - 1 - i + b) % K.length = b - 1 - i := by
      rw [show K.length - 1 - i + b = (b - 1 - i) + K.length by omega, Nat.add_mod_right, Nat.mod_eq_of_lt (by omega)]
    rw [e, List.getElem?_take]
    simp only [List.length_take]
    rw [show min b K.length = b by omega, if_pos (by omega)]
  · rw [List.getElem?_append_right (by omega), hl, List.getElem?_reverse (by simp; omega)]
    rw [Nat.mod_eq_of_lt (by omega), List.getElem?_drop]
    simp only [List.length_drop]
    congr 1
    omega

/-- Keys taken out, one behind the other. -/
def cut (l : List KV) (D : List Int) : List KV := D.foldl lessL l

theorem cut_snoc (l : List KV) (D : List Int) (k : Int) : cut l (D ++ [k]) = lessL (cut l D) k := by unfold cut; rw [List.foldl_append]; rfl

theorem cut_rising : ∀ (D : List Int) {l : List KV}, rising l → rising (cut l D)
  | [], _, h => h
  | k :: D, l, h => cut_rising D (rising_lessL h k)

theorem cut_filter : ∀ (D : List Int) {l : List KV}, rising l → cut l D = l.filter fun x => decide (x.1 ∉ D)
  | [], l, h => by
    show l = _
    rw [filter_all fun x _ => by simp]
  | k :: D, l, h => by
    show cut (lessL l k) D = _
    rw [cut_filter D (rising_lessL h k), lessL_del h]
    unfold del
    rw [List.filter_filter]
    congr 1
    funext x
    by_cases h1 : x.1 = k <;> by_cases h2 : x.1 ∈ D <;> simp [h1, h2]

theorem cut_same {D D' : List Int} {l : List KV} (h : rising l) (hm : ∀ k, k ∈ D ↔ k ∈ D') : cut l D = cut l D' := by
  rw [cut_filter D h, cut_filter D' h]
  congr 1
  funext x
  simp [hm]

theorem lessL_none {l : List KV} {k : Int} (h : isAt l k = false) : lessL l k = l := by
  unfold lessL
  rw [h]
  simp

theorem isAt_out {l : List KV} {k : Int} (h : ∀ x, x ∈ l → x.1 ≠ k) : isAt l k = false := by
  rw [isAt_get]
  rcases ho : l[whr l k]? with _ | x
  · rfl
  · have := h x (List.mem_of_getElem? ho)
    simpa using this

theorem isAt_none {l : List KV} (hr : rising l) {k : Int} (h : isAt l k = false) : ∀ x, x ∈ l → x.1 ≠ k := by
  intro x hx e
  have h1 : val l k = none := by
    have h2 := valL_val hr k
    rcases hv : val l k with _ | v
    · rfl
    · rw [hv] at h2
      have h3 := valL_has l k
      rw [h2, h] at h3
      cases h3
  unfold val at h1
  simp only [Option.map_eq_none_iff, List.find?_eq_none] at h1
  have := h1 x hx
  simp [e] at this

theorem lessL_le (l : List KV) (k : Int) : (lessL l k).length ≤ l.length := by
  unfold lessL
  have := whr_le l k
  simp only [List.length_append, List.length_take, List.length_drop]
  omega

theorem cut_le : ∀ (D : List Int) (l : List KV), (cut l D).length ≤ l.length
  | [], _ => Nat.le_refl _
  | k :: D, l => Nat.le_trans (cut_le D (lessL l k)) (lessL_le l k)

end Go.Proofs.Ytacegkjobfeiiaa

namespace Go.Proofs.Ytacegkjobfeiiaa
open Go.RowKit

/-- Two maps, the free places: together all of the pool; behind s steps. -/
structure Tw (A : PA) (tb s : Nat) (S : Nat → Sl) (t : Int) (fs : List Nat) (c : Int) (ox oz : Option Tr) (w : World) : Prop where
  tr : TrAt w tb A 4096 S t fs 0
  fre : Fre 4096 S fs c
  rx : RepO 4096 S ox
  rz : RepO 4096 S oz
  all : (fs ++ (slotsO ox ++ slotsO oz)).Perm (List.range' 1 4096)
  cle : c ≤ 2 * s
  tle : t ≤ 100 * s

/-- .. in the midst of a step: gs is still to be given back. -/
structure TwMid (A : PA) (tb s : Nat) (S : Nat → Sl) (t : Int) (fs : List Nat) (c : Int) (ox oz : Option Tr) (gs : List Nat) (w : World) : Prop where
  tr : TrAt w tb A 4096 S t fs 0
  fre : Fre 4096 S fs c
  rx : RepO 4096 S ox
  rz : RepO 4096 S oz
  alive : ∀ i, i ∈ gs → Alive 4096 S i
  all : ((gs ++ fs) ++ (slotsO ox ++ slotsO oz)).Perm (List.range' 1 4096)
  cle : c ≤ 2 * s + 1
  tle : t ≤ 100 * s + 34
  few : gs.length ≤ 36

section
variable {A : PA} {tb s : Nat} {S : Nat → Sl} {t c : Int} {fs : List Nat} {ox oz : Option Tr} {w : World}

theorem Tw.swap (h : Tw A tb s S t fs c ox oz w) : Tw A tb s S t fs c oz ox w :=
  ⟨h.tr, h.fre, h.rz, h.rx, (List.Perm.append_left fs List.perm_append_comm).trans h.all, h.cle, h.tle⟩

theorem Tw.other {L : List Nat} {w' : World} (h : Tw A tb s S t fs c ox oz w) (o : Only L w w') (h1 : tb ∉ L) (h2 : ∀ k, k ∈ A.all → k ∉ L) : Tw A tb s S t fs c ox oz w' := ⟨h.tr.other o h1 h2, h.fre, h.rx, h.rz, h.all, h.cle, h.tle⟩

theorem Tw.plain {w' : World} (h : Tw A tb s S t fs c ox oz w) (o : Only [] w w') : Tw A tb s S t fs c ox oz w' := h.other o (by simp) (fun _ _ => by simp)

theorem Tw.mono {s' : Nat} (h : Tw A tb s S t fs c ox oz w) (hs : s ≤ s') : Tw A tb s' S t fs c ox oz w := ⟨h.tr, h.fre, h.rx, h.rz, h.all, by have := h.cle; omega, by have := h.tle; omega⟩

theorem TwMid.other {L gs : List Nat} {w' : World} (h : TwMid A tb s S t fs c ox oz gs w) (o : Only L w w') (h1 : tb ∉ L) (h2 : ∀ k, k ∈ A.all → k ∉ L) : TwMid A tb s S t fs c ox oz gs w' := ⟨h.tr.other o h1 h2, h.fre, h.rx, h.rz, h.alive, h.all, h.cle, h.tle, h.few⟩

theorem Tw.nodup (h : Tw A tb s S t fs c ox oz w) : (fs ++ (slotsO ox ++ slotsO oz)).Nodup := h.all.nodup_iff.2 List.nodup_range'

theorem Tw.count (h : Tw A tb s S t fs c ox oz w) : fs.length + (slotsO ox).length + (slotsO oz).length = 4096 := by
  have := h.all.length_eq
  simp at this
  omega

end

/-- What a step has done so far. -/
def MidPost (A : PA) (tb s : Nat) (S0 : Nat → Sl) (oz : Option Tr) (P : List KV) (w : World) (e : Ending) (w' : World) : Prop :=
  ∃ (S : Nat → Sl) (t : Int) (fs : List Nat) (c : Int) (oy : Option Tr) (gs : List Nat) (gg cg ml mc : Nat) (ag ma : Option Addr) (e1 : Int) (e2 : Bool), e = .returned (.tuple #[.agg #[.int .i64 (rootOf S oy), .int .i64 e1, .bool e2, .slice ag gs.length cg, .slice ma ml mc], .int .i64 0]) ∧ prs oy = P ∧ TwMid A tb s S t fs c oy oz gs w' ∧ IntRow w' ag gg cg (hnds S gs) ∧ w.heap.size ≤ gg ∧ rootOf S oz = rootOf S0 oz ∧ Only A.all w w'

theorem tw_mid {A : PA} {tb s : Nat} {S : Nat → Sl} {t c old : Int} {had : Bool} {fs : List Nat} {ox oz : Option Tr} {P : List KV} {w w' : World} {e : Ending} (h : Tw A tb s S t fs c ox oz w) (hd : EdOk A 4096 S fs t 0 tb ox old had P w e w') (hP : (prs ox).length ≤ P.length + 1) : MidPost A tb s S oz P w e w' := by
  obtain ⟨oy, S', t', m, gs, rest, gv, mv, rfl, hR, hPP, hM, hT, hgv, hmv, hp1, hp2, hm2, hm34, hX⟩ := hd
  have hoff := rep_off h.fre h.rx
  have hS : ∀ i, i ∉ fs → S' i = S i := fun i hi => hM.old i (fun hm => hi (List.mem_of_mem_take hm))
  have hgs : ∀ i, i ∈ gs → i ∈ slotsO ox := fun i hi => hp1.mem_iff.2 (by simp [hi])
  obtain ⟨gg, ag, cg, rfl, hrow, hge, _⟩ := introw_own hgv
  obtain ⟨ma, mc, rfl⟩ := own_slice_any hmv
  have hz := h.rz.move h.fre hS
  have htag := hM.tag
  have hc := h.cle
  have ht := h.tle
  have hlen := hp1.length_eq
  have hlen2 := hp2.length_eq
  have hle := hM.le
  simp only [List.length_append, List.length_take] at hlen hlen2
  have hs1 := slots_prs ox
  have hs2 := slots_prs oy
  rw [hPP] at hs2
  refine ⟨S', t', fs.drop m, c + 1, oy, gs, gg, cg, m, mc, ag, ma, old, had, by rw [hnds_length], hPP, ⟨hT, hM.fre h.fre, hR, hz.1, fun i hi => ?_, ?_, by omega, by omega, by omega⟩, ?_, hge, hz.2, hX⟩
  · have := rep_rng h.rx i (hgs i hi)
    unfold Alive at *
    rw [hS i (hoff i (hgs i hi))]
    exact this
  · refine List.Perm.trans (List.perm_iff_count.2 fun a => ?_) h.all
    have c1 := hp1.count_eq a
    have c2 := hp2.count_eq a
    have c3 := congrArg (List.count a) (List.take_append_drop m fs)
    simp only [List.count_append] at c1 c2 c3 ⊢
    omega
  · rw [hnds_same fun i hi => hS i (hoff i (hgs i hi))]
    exact hrow

theorem withL_ge (l : List KV) (k v : Int) : l.length ≤ (withL l k v).length := by
  unfold withL
  have h1 := whr_le l k
  have h2 := isAt_lt l k
  simp only [List.length_append, List.length_take, List.length_cons, List.length_drop]
  split <;> omega

theorem lessL_ge (l : List KV) (k : Int) : l.length ≤ (lessL l k).length + 1 := by
  unfold lessL
  have h1 := whr_le l k
  have h2 := isAt_lt l k
  simp only [List.length_append, List.length_take, List.length_drop]
  split <;> omega

/-- Nothing was done: a place lacked. -/
def NoPost (A : PA) (w : World) (e : Ending) (w' : World) : Prop := e = .returned (.tuple #[.agg #[.int .i64 0, .int .i64 0, .bool false, .slice none 0 0, .slice none 0 0], .int .i64 102]) ∧ Only A.all w w'

section
variable {A : PA} {tb s : Nat} {S : Nat → Sl} {t c : Int} {fs : List Nat} {ox oz : Option Tr} {w : World}

theorem tw_put {k v : Int} (h : Tw A tb s S t fs c ox oz w) (hs : s ≤ 1000) (hk : InK k) :
    Calls Try.prog 20 #[.pointer (some ⟨tb, 0, none⟩), .pointer none, .int .i64 (rootOf S ox), .int .i64 k, .int .i64 v] w fun e w' => MidPost A tb s S oz (withL (prs ox) k v) w e w' ∨ NoPost A w e w' := by
  have hc := h.cle
  have ht := h.tle
  have hcn := h.count
  refine (put_any h.tr h.fre (by omega) (by omega) h.rx hk).mono ?_
  rintro e w' (hd | ⟨h1, S2, t2, _, _, _, hX⟩)
  · exact Or.inl (tw_mid h hd (by have := withL_ge (prs ox) k v; omega))
  · exact Or.inr ⟨h1, hX⟩

theorem tw_drop {k : Int} (h : Tw A tb s S t fs c ox oz w) (hs : s ≤ 1000) (hlx : (prs ox).length ≤ 100) (hlz : (prs oz).length ≤ 100) :
    Calls Try.prog 22 #[.pointer (some ⟨tb, 0, none⟩), .pointer none, .int .i64 (rootOf S ox), .int .i64 k] w fun e w' => (isAt (prs ox) k = true ∧ MidPost A tb s S oz (lessL (prs ox) k) w e w') ∨ (isAt (prs ox) k = false ∧ ∃ x : Int, x ≠ 0 ∧ EdErr x w e w') := by
  have hc := h.cle
  have ht := h.tle
  have hcn := h.count
  by_cases hk : InK k
  · cases hox : ox with
    | none =>
      refine (drop_none hk).mono ?_
      intro e w' h
      exact Or.inr ⟨rfl, 122, by omega, h⟩
    | some x =>
      subst hox
      have R := h.rx
      rw [lessL_del (prs_rising R)]
      by_cases hh : ∃ i v, (down x k).2 = .leaf i k v
      · obtain ⟨i, v, hh⟩ := hh
        have hat : isAt (prs (some x)) k = true := by rw [← valL_has]; exact (way_old R.2 hh).2
        refine (drop_hit_x h.tr h.fre (by omega) (by omega) R.1 R.2 hk hh).mono ?_
        rintro e w' (hd | ⟨hn, _⟩)
        · refine Or.inl ⟨hat, tw_mid h hd.ok ?_⟩
          have := lessL_ge (prs (some x)) k
          rw [lessL_del (prs_rising R)] at this
          exact this
        · exfalso
          have h1 := down_len x k R.2
          have h2 := slots_prs (some x)
          have h3 := slots_prs oz
          have h4 := rk_le R.2
          omega
      · have hat : isAt (prs (some x)) k = false := by rw [← valL_has]; exact (way_none R.2 (fun i v e => hh ⟨i, v, e⟩)).2
        refine (drop_miss h.tr h.fre (by omega) (by omega) R.1 R.2 hk (fun i v e => hh ⟨i, v, e⟩)).mono ?_
        intro e w' h
        exact Or.inr ⟨hat, 122, by omega, h⟩
  · have hat : isAt (prs ox) k = false := isAt_out fun x hx e => hk (by have := prs_key h.rx x hx; rw [e] at this; exact this)
    refine (drop_bad hk).mono ?_
    intro e w' h
    exact Or.inr ⟨hat, 120, by omega, h⟩

theorem tw_undo {gs : List Nat} {gg cg : Nat} {ag : Option Addr} (h : TwMid A tb s S t fs c ox oz gs w) (hs : s ≤ 1000) (hr : IntRow w ag gg cg (hnds S gs)) (hgA : gg ∉ A.all) :
    Calls Try.prog 21 #[.pointer (some ⟨tb, 0, none⟩), .pointer none, .slice ag gs.length cg] w fun e w' => e = .returned (.int .i64 0) ∧ (∃ S' t' fs' c', Tw A tb (s + 1) S' t' fs' c' ox oz w' ∧ rootOf S' ox = rootOf S ox ∧ rootOf S' oz = rootOf S oz) ∧ Only A.all w w' := by
  have hc := h.cle
  have ht := h.tle
  have hfew := h.few
  have hnd : ((gs ++ fs) ++ (slotsO ox ++ slotsO oz)).Nodup := h.all.nodup_iff.2 List.nodup_range'
  rw [List.nodup_append, List.nodup_append] at hnd
  obtain ⟨⟨hd1, _, hd2⟩, _, hd3⟩ := hnd
  by_cases hne : gs = []
  · subst hne
    refine (trie_undo_none w).mono ?_
    rintro e w' ⟨rfl, rfl⟩
    exact ⟨rfl, ⟨S, t, fs, c, ⟨h.tr, h.fre, h.rx, h.rz, h.all, by omega, by omega⟩, rfl, rfl⟩, Only.refl _ _⟩
  · have hne2 : hnds S gs ≠ [] := by
      intro e
      have := congrArg List.length e
      rw [hnds_length] at this
      exact hne (List.eq_nil_of_length_eq_zero this)
    have hlen : 0 < gs.length := by
      rcases gs with _ | ⟨a, gs⟩
      · exact absurd rfl hne
      · simp
    have hoff : ∀ i, i ∈ gs → i ∉ fs := fun i hi hf => hd2 i hi i hf rfl
    have hfits := hr.fits
    rw [hnds_length] at hfits
    have hkeep : ∀ (o : Option Tr), RepO 4096 S o → (∀ i, i ∈ slotsO o → i ∉ gs) → RepO 4096 (backS S gs) o ∧ rootOf (backS S gs) o = rootOf S o := by
      intro o R hn
      cases o with
      | none => exact ⟨trivial, rfl⟩
      | some x =>
        have hsame : ∀ i, i ∈ x.slots → backS S gs i = S i := fun i hi => by unfold backS; rw [if_neg (hn i hi)]
        exact ⟨⟨R.1.same hsame, R.2⟩, hnd_same hsame⟩
    have hx := hkeep ox h.rx (fun i hi hg => hd3 i (by simp [hg]) i (by simp [hi]) rfl)
    have hz := hkeep oz h.rz (fun i hi hg => hd3 i (by simp [hg]) i (by simp [hi]) rfl)
    rw [hr.ad hne2]
    refine (trie_undo h.tr hlen (by omega) hfits hgA (hr.lt hne2) (fun j i hi => ?_) (fun i hi => h.alive i hi) hd1 hoff (by omega)).mono ?_
    · refine hr.cells j _ ?_
      unfold hnds
      rw [List.getElem?_map, hi]
      rfl
    · rintro e w' ⟨rfl, hT, hX⟩
      exact ⟨rfl, ⟨backS S gs, t + gs.length, gs ++ fs, c + 1, ⟨hT, backS_fre h.fre (fun i hi => h.alive i hi) hd1 hoff, hx.1, hz.1, h.all, by omega, by omega⟩, hx.2, hz.2⟩, hX⟩

end

theorem tw_new {A : PA} {tb : Nat} {w : World} (T : TrAt w tb A 4096 (fun _ => slot0) 0 (List.range' 1 4096) 0) : Tw A tb 0 (fun _ => slot0) 0 (List.range' 1 4096) 0 none none w := by
  refine ⟨T, ⟨List.nodup_range', fun i hi => ?_, fun i => by simp [slot0]⟩, trivial, trivial, by simp [slotsO], by omega, by omega⟩
  obtain ⟨j, hj, rfl⟩ := List.mem_range'.1 hi
  simp [slot0]; omega

end Go.Proofs.Ytacegkjobfeiiaa

namespace Go.Proofs.Ytacegkjobfeiiaa
open Go.RowKit

def updO (oo : Nat → Option Tr) (k : Nat) (o : Option Tr) : Nat → Option Tr := fun q => if q = k then o else oo q

/-- Two maps, their roots in a variable. -/
structure Two (A : PA) (tb rb s : Nat) (S : Nat → Sl) (t : Int) (fs : List Nat) (c : Int) (oo : Nat → Option Tr) (w : World) : Prop where
  tw : Tw A tb s S t fs c (oo 0) (oo 1) w
  blk : Blk w rb #[.int .i64 (rootOf S (oo 0)), .int .i64 (rootOf S (oo 1))] 63

section
variable {A : PA} {tb rb s : Nat} {S : Nat → Sl} {t c : Int} {fs : List Nat} {oo : Nat → Option Tr} {w : World}

theorem Two.at (h : Two A tb rb s S t fs c oo w) {k : Nat} (hk : k < 2) : Tw A tb s S t fs c (oo k) (oo (1 - k)) w := by
  have : k = 0 ∨ k = 1 := by omega
  rcases this with rfl | rfl
  · exact h.tw
  · exact h.tw.swap

theorem Two.cell (h : Two A tb rb s S t fs c oo w) {k : Nat} (hk : k < 2) : w.cell? ⟨rb, k, none⟩ = some (.int .i64 (rootOf S (oo k))) := by
  have : k = 0 ∨ k = 1 := by omega
  rcases this with rfl | rfl
  · exact h.blk.cell 0 rfl
  · exact h.blk.cell 1 rfl

theorem Two.only {L : List Nat} {w' : World} (h : Two A tb rb s S t fs c oo w) (o : Only L w w') (h1 : tb ∉ L) (h2 : ∀ k, k ∈ A.all → k ∉ L) (h3 : rb ∉ L) : Two A tb rb s S t fs c oo w' := ⟨h.tw.other o h1 h2, h.blk.only o h3⟩

theorem Two.plain {w' : World} (h : Two A tb rb s S t fs c oo w) (o : Only [] w w') : Two A tb rb s S t fs c oo w' := h.only o (by simp) (fun _ _ => by simp) (by simp)

theorem Two.mono {s' : Nat} (h : Two A tb rb s S t fs c oo w) (hs : s ≤ s') : Two A tb rb s' S t fs c oo w := ⟨h.tw.mono hs, h.blk⟩

end

theorem two_next {A : PA} {tb rb s k : Nat} {S0 S : Nat → Sl} {t c : Int} {fs : List Nat} {oo : Nat → Option Tr} {oy : Option Tr} {ry : Int} {w : World} (hk : k < 2) (h : Tw A tb s S t fs c oy (oo (1 - k)) w)
    (hB : Blk w rb ((#[.int .i64 (rootOf S0 (oo 0)), .int .i64 (rootOf S0 (oo 1))] : Array Value).setIfInBounds k (.int .i64 ry)) 63) (hry : rootOf S oy = ry) (hrz : rootOf S (oo (1 - k)) = rootOf S0 (oo (1 - k))) : Two A tb rb s S t fs c (updO oo k oy) w := by
  have : k = 0 ∨ k = 1 := by omega
  rcases this with rfl | rfl
  · refine ⟨h, ?_⟩
    have e1 : rootOf S (oo 1) = rootOf S0 (oo 1) := hrz
    show Blk w rb #[.int .i64 (rootOf S oy), .int .i64 (rootOf S (oo 1))] _
    rw [hry, e1]
    exact hB
  · refine ⟨h.swap, ?_⟩
    have e1 : rootOf S (oo 0) = rootOf S0 (oo 0) := hrz
    show Blk w rb #[.int .i64 (rootOf S (oo 0)), .int .i64 (rootOf S oy)] _
    rw [hry, e1]
    exact hB

/-- The keys in their two orders. -/
def ordK (K : List KV) (b q : Nat) : List KV := if q = 0 then K else turned K b
def ordD (D : List Int) (q : Nat) : List Int := if q = 0 then D else D.reverse

theorem ordK_length (K : List KV) (b q : Nat) : (ordK K b q).length = K.length := by
  unfold ordK
  split
  · rfl
  · exact turned_length K b

theorem ordD_length (D : List Int) (q : Nat) : (ordD D q).length = D.length := by
  unfold ordD
  split
  · rfl
  · simp

theorem ordK_bag {K : List KV} (h : Apart K) (b q : Nat) : bag (ordK K b q) = bag K := by
  unfold ordK
  split
  · rfl
  · exact (bag_same h (turned_perm K b)).symm

theorem ordD_cut {l : List KV} (h : Tr.rising l) (D : List Int) (q : Nat) : cut l (ordD D q) = cut l D := by
  unfold ordD
  split
  · rfl
  · exact cut_same h (fun k => by simp)

theorem bag_take {K : List KV} {i : Nat} {x : KV} (h : K[i]? = some x) : bag (K.take (i + 1)) = withL (bag (K.take i)) x.1 x.2 := by
  obtain ⟨hl, rfl⟩ := List.getElem?_eq_some_iff.1 h
  rw [List.take_succ_eq_append_getElem hl, bag_snoc]

theorem cut_take {l : List KV} {D : List Int} {i : Nat} {k : Int} (h : D[i]? = some k) : cut l (D.take (i + 1)) = lessL (cut l (D.take i)) k := by
  rw [take_snoc h, cut_snoc]

theorem bag_le (K : List KV) : (bag K).length ≤ K.length := by
  have : ∀ (K l : List KV), (K.foldl (fun l x => withL l x.1 x.2) l).length ≤ K.length + l.length := by
    intro K
    induction K with
    | nil => intro l; simp
    | cons x K ih =>
      intro l
      have h1 := ih (withL l x.1 x.2)
      have h2 : (withL l x.1 x.2).length ≤ l.length + 1 := by
        unfold withL
        have := whr_le l x.1
        simp only [List.length_append, List.length_take, List.length_cons, List.length_drop]
        omega
      simp only [List.foldl_cons, List.length_cons]
      omega
  simpa [bag] using this K []

/-- What keys have been found. -/
structure Keys (K : List KV) (i : Nat) : Prop where
  apart : Apart K
  rng : ∀ x, x ∈ K → InK x.1
  few : K.length ≤ i

theorem Keys.snoc {K : List KV} {i : Nat} {x : KV} (h : Keys K i) (hx : InK x.1) (hn : isAt (bag K) x.1 = false) : Keys (K ++ [x]) (i + 1) := by
  refine ⟨List.pairwise_append.2 ⟨h.apart, by simp, fun a ha b hb => ?_⟩, fun a ha => ?_, by have := h.few; simp; omega⟩
  · simp at hb
    subst hb
    exact isAt_none (bag_rising K) hn a ((bag_perm h.apart).mem_iff.2 ha)
  · rcases List.mem_append.1 ha with ha | ha
    · exact h.rng a ha
    · simp at ha; subst ha; exact hx

theorem Keys.mono {K : List KV} {i : Nat} (h : Keys K i) : Keys K (i + 1) := ⟨h.apart, h.rng, by have := h.few; omega⟩

theorem ordK_mem {K : List KV} {b q i : Nat} {x : KV} (h : (ordK K b q)[i]? = some x) : x ∈ K := by
  have hm := List.mem_of_getElem? h
  unfold ordK at hm
  split at hm
  · exact hm
  · exact (turned_perm K b).mem_iff.2 hm

/-- Where the other order's key lies. -/
theorem ordK_at {K : List KV} {b q i : Nat} (hb : b < K.length) (hi : i < K.length) : (ordK K b q)[i]? = K[if q = 0 then i else (K.length - 1 - i + b) % K.length]? := by
  unfold ordK
  split
  · rfl
  · exact turned_at hb hi

theorem ordD_at {D : List Int} {q i : Nat} (hi : i < D.length) : (ordD D q)[i]? = D[if q = 0 then i else D.length - 1 - i]? := by
  unfold ordD
  split
  · rfl
  · exact List.getElem?_reverse hi

/-- What Put or Drop leaves, in one word: an error (and what then holds), or a step half done. -/
def EdPost (A : PA) (tb s : Nat) (S0 : Nat → Sl) (oz : Option Tr) (bad : Int → World → World → Prop) (P : List KV) (w : World) (e : Ending) (w' : World) : Prop :=
  ∃ (r e1 er : Int) (e2 : Bool) (ag ma : Option Addr) (gl cg ml mc : Nat), e = .returned (.tuple #[.agg #[.int .i64 r, .int .i64 e1, .bool e2, .slice ag gl cg, .slice ma ml mc], .int .i64 er]) ∧ Only A.all w w' ∧
    ((er ≠ 0 ∧ bad er w w') ∨ (er = 0 ∧ ∃ (S : Nat → Sl) (t : Int) (fs : List Nat) (c : Int) (oy : Option Tr) (gs : List Nat) (gg : Nat), r = rootOf S oy ∧ gl = gs.length ∧ prs oy = P ∧ TwMid A tb s S t fs c oy oz gs w' ∧ IntRow w' ag gg cg (hnds S gs) ∧ w.heap.size ≤ gg ∧ rootOf S oz = rootOf S0 oz))

theorem MidPost.ed {A : PA} {tb s : Nat} {S0 : Nat → Sl} {oz : Option Tr} {bad : Int → World → World → Prop} {P : List KV} {w : World} {e : Ending} {w' : World} (h : MidPost A tb s S0 oz P w e w') : EdPost A tb s S0 oz bad P w e w' := by
  obtain ⟨S, t, fs, c, oy, gs, gg, cg, ml, mc, ag, ma, e1, e2, rfl, h1, h2, h3, h4, h5, h6⟩ := h
  exact ⟨_, e1, 0, e2, ag, ma, _, cg, ml, mc, rfl, h6, Or.inr ⟨rfl, S, t, fs, c, oy, gs, gg, rfl, rfl, h1, h2, h3, h4, h5⟩⟩

theorem tw_put_x {A : PA} {tb s : Nat} {S : Nat → Sl} {t c : Int} {fs : List Nat} {ox oz : Option Tr} {w : World} {k v : Int} (h : Tw A tb s S t fs c ox oz w) (hs : s ≤ 1000) (hk : InK k) :
    Calls Try.prog 20 #[.pointer (some ⟨tb, 0, none⟩), .pointer none, .int .i64 (rootOf S ox), .int .i64 k, .int .i64 v] w (EdPost A tb s S oz (fun er _ _ => er = 102) (withL (prs ox) k v) w) := by
  refine (tw_put h hs hk).mono ?_
  rintro e w' (h | ⟨rfl, h⟩)
  · exact h.ed
  · exact ⟨0, 0, 102, false, none, none, 0, 0, 0, 0, rfl, h, Or.inl ⟨by omega, rfl⟩⟩

theorem tw_drop_x {A : PA} {tb s : Nat} {S : Nat → Sl} {t c : Int} {fs : List Nat} {ox oz : Option Tr} {w : World} {k : Int} (h : Tw A tb s S t fs c ox oz w) (hs : s ≤ 1000) (hlx : (prs ox).length ≤ 100) (hlz : (prs oz).length ≤ 100) :
    Calls Try.prog 22 #[.pointer (some ⟨tb, 0, none⟩), .pointer none, .int .i64 (rootOf S ox), .int .i64 k] w (EdPost A tb s S oz (fun _ w w' => isAt (prs ox) k = false ∧ Only [] w w') (lessL (prs ox) k) w) := by
  refine (tw_drop h hs hlx hlz).mono ?_
  rintro e w' (⟨_, h⟩ | ⟨h1, x, hx, rfl, h2⟩)
  · exact h.ed
  · exact ⟨0, 0, x, false, none, none, 0, 0, 0, 0, rfl, h2.mono (by simp), Or.inl ⟨hx, h1, h2⟩⟩

end Go.Proofs.Ytacegkjobfeiiaa

