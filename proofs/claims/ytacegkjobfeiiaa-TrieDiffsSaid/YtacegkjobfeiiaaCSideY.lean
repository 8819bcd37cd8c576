/- Two sides beside one another: plain laws of spans and of what two maps differ in; what stands while changes come. No condition. · Two sides beside one another: one handle, or spans apart: as a call. Conditions: all stands in memory as Dcx says. · Two sides beside one another: a side that has been read, kept while changes come; its halves as calls. Conditions: its block and its node stand in memory. -/
import Derived.Test.YtacegkjobfeiiaaCSideX
set_option linter.unusedVariables false
set_option linter.unusedSimpArgs false
set_option linter.unusedSectionVars false
set_option linter.unnecessarySimpa false
namespace Go.Proofs.Ytacegkjobfeiiaa
open Go.RowKit

theorem sep_pairs {x y : Tr} (wx : x.wf) (wy : y.wf) (h : x.hi < y.lo) : Sep2 x.pairs y.pairs := fun a ha b hb => by
  have h1 := Tr.wf_keys wx a ha
  have h2 := Tr.wf_keys wy b hb
  omega

theorem md_apart_left {x y : Tr} (wx : x.wf) (wy : y.wf) (h : x.hi < y.lo) : md x.pairs y.pairs = allC true x ++ allC false y := by
  have := md_app_left x.pairs [] y.pairs (by intro a _ b hb; simp at hb) (sep_pairs wx wy h)
  rw [List.append_nil, md_nil_left] at this
  rw [this]; simp [allC]

theorem md_apart_right {x y : Tr} (wx : x.wf) (wy : y.wf) (h : y.hi < x.lo) : md x.pairs y.pairs = allC false y ++ allC true x := by
  have := md_app_right x.pairs y.pairs [] (sep_pairs wy wx h) (by intro a _ b hb; simp at hb)
  rw [List.append_nil, md_nil_right] at this
  rw [this]; simp [allC]

theorem md_both {i j p : Nat} {f : Int} {l r l2 r2 : Tr} (wx : (Tr.node i p f l r).wf) (wy : (Tr.node j p f l2 r2).wf) : md (Tr.node i p f l r).pairs (Tr.node j p f l2 r2).pairs = md l.pairs l2.pairs ++ md r.pairs r2.pairs := by
  obtain ⟨_, _, _, _, wl, wr, a1, a2, a3, a4⟩ := wx
  obtain ⟨_, _, _, _, wl2, wr2, b1, b2, b3, b4⟩ := wy
  exact md_split _ _ _ _ _ (Nat.le_refl _) (sep_pairs wl wr (by omega)) (sep_pairs wl wr2 (by omega)) (sep_pairs wl2 wr (by omega)) (sep_pairs wl2 wr2 (by omega))

theorem md_xR {i p : Nat} {f : Int} {l r y : Tr} (wx : (Tr.node i p f l r).wf) (wy : y.wf) (h : f + pw p ≤ y.lo) : md (Tr.node i p f l r).pairs y.pairs = allC true l ++ md r.pairs y.pairs := by
  obtain ⟨_, _, _, _, wl, wr, a1, a2, a3, a4⟩ := wx
  have := md_app_left l.pairs r.pairs y.pairs (sep_pairs wl wr (by omega)) (sep_pairs wl wy (by omega))
  show md (l.pairs ++ r.pairs) _ = _
  rw [this]; simp [allC]

theorem md_xL {i p : Nat} {f : Int} {l r y : Tr} (wx : (Tr.node i p f l r).wf) (wy : y.wf) (h : y.hi < f + pw p) : md (Tr.node i p f l r).pairs y.pairs = md l.pairs y.pairs ++ allC true r := by
  obtain ⟨_, _, _, _, wl, wr, a1, a2, a3, a4⟩ := wx
  have := md_split _ l.pairs r.pairs y.pairs [] (Nat.le_refl _) (sep_pairs wl wr (by omega)) (by intro a _ b hb; simp at hb) (sep_pairs wy wr (by omega)) (by intro a _ b hb; simp at hb)
  show md (l.pairs ++ r.pairs) _ = _
  rw [List.append_nil, md_nil_right] at this
  rw [this]; simp [allC]

theorem md_yR {j q : Nat} {g : Int} {l r x : Tr} (wy : (Tr.node j q g l r).wf) (wx : x.wf) (h : g + pw q ≤ x.lo) : md x.pairs (Tr.node j q g l r).pairs = allC false l ++ md x.pairs r.pairs := by
  obtain ⟨_, _, _, _, wl, wr, a1, a2, a3, a4⟩ := wy
  have := md_app_right x.pairs l.pairs r.pairs (sep_pairs wl wx (by omega)) (sep_pairs wl wr (by omega))
  show md _ (l.pairs ++ r.pairs) = _
  rw [this]; simp [allC]

theorem md_yL {j q : Nat} {g : Int} {l r x : Tr} (wy : (Tr.node j q g l r).wf) (wx : x.wf) (h : x.hi < g + pw q) : md x.pairs (Tr.node j q g l r).pairs = md x.pairs l.pairs ++ allC false r := by
  obtain ⟨_, _, _, _, wl, wr, a1, a2, a3, a4⟩ := wy
  have := md_split _ x.pairs [] l.pairs r.pairs (Nat.le_refl _) (by intro a _ b hb; simp at hb) (sep_pairs wx wr (by omega)) (by intro a _ b hb; simp at hb) (sep_pairs wl wr (by omega))
  show md _ (l.pairs ++ r.pairs) = _
  rw [List.append_nil, md_nil_left] at this
  rw [this]; simp [allC]

theorem md_leaves (i j : Nat) (k u u2 : Int) : md (Tr.leaf i k u).pairs (Tr.leaf j k u2).pairs = if u = u2 then [] else [.chg k u u2] := by
  simp only [Tr.pairs]
  rw [md, if_neg (by simp), if_neg (by simp)]
  simp [md]

theorem pw_grow {p q : Nat} (h : p < q) : pw (p + 1) ≤ pw q := by
  unfold pw
  have : 2 ^ (p + 1) ≤ 2 ^ q := Nat.pow_le_pow_right (by decide) h
  omega

theorem pw_part : ∀ {p q : Nat}, p ≤ q → ∃ m : Int, pw q = m * pw p
  | p, 0, h => ⟨1, by obtain rfl : p = 0 := by omega
                      simp⟩
  | p, q + 1, h => by
    by_cases e : p = q + 1
    · exact ⟨1, by subst e; simp⟩
    · obtain ⟨m, hm⟩ := pw_part (p := p) (q := q) (by omega)
      exact ⟨2 * m, by rw [pw_succ, hm, Int.mul_assoc]⟩

/-- What begins in the lower half and is less wide ends there. -/
theorem nest {i p : Nat} {f : Int} {l r y : Tr} (wx : (Tr.node i p f l r).wf) (wy : y.wf) (hs : y.hi - y.lo < pw (p + 1) - 1) (hlt : y.lo < f + pw p) : y.hi < f + pw p := by
  obtain ⟨_, ⟨a, ha⟩, _⟩ := wx
  cases y with
  | leaf j k v => exact hlt
  | node j q g l2 r2 =>
    obtain ⟨_, ⟨b, hb⟩, _⟩ := wy
    simp only [Tr.lo, Tr.hi] at *
    have hq : q < p := by
      by_cases e : q < p
      · exact e
      · have h2 : pw (p + 1) ≤ pw (q + 1) := pw_grow (by omega)
        omega
    obtain ⟨m, hm⟩ := pw_part (p := q + 1) (q := p) (by omega)
    have hpp := pw_pos (q + 1)
    have e1 : f + pw p = (2 * a * m + m) * pw (q + 1) := by
      rw [ha, pw_succ, hm, Int.add_mul, Int.mul_assoc (2 * a) m]
      rw [← Int.mul_assoc, Int.mul_comm a 2]
    rw [e1, hb] at hlt ⊢
    have hbm : b < 2 * a * m + m := Int.lt_of_mul_lt_mul_right hlt (by omega)
    have h3 : (b + 1) * pw (q + 1) ≤ (2 * a * m + m) * pw (q + 1) := Int.mul_le_mul_of_nonneg_right (by omega) (by omega)
    rw [Int.add_mul, Int.one_mul] at h3
    omega

/-- Two nodes whose spans meet and are equally wide have one span. -/
theorem one_span {i j p q : Nat} {f g : Int} {l r l2 r2 : Tr} (wx : (Tr.node i p f l r).wf) (wy : (Tr.node j q g l2 r2).wf) (h1 : ¬ f + pw (p + 1) - 1 < g) (h2 : ¬ g + pw (q + 1) - 1 < f) (hs : pw (p + 1) = pw (q + 1)) : f = g := by
  obtain ⟨_, ⟨a, ha⟩, _⟩ := wx
  obtain ⟨_, ⟨b, hb⟩, _⟩ := wy
  rw [← hs] at hb h2
  have hpp := pw_pos (p + 1)
  have h3 : b < a + 1 := by
    have : b * pw (p + 1) < (a + 1) * pw (p + 1) := by rw [Int.add_mul, Int.one_mul, ← ha, ← hb]; omega
    exact Int.lt_of_mul_lt_mul_right this (by omega)
  have h4 : a < b + 1 := by
    have : a * pw (p + 1) < (b + 1) * pw (p + 1) := by rw [Int.add_mul, Int.one_mul, ← ha, ← hb]; omega
    exact Int.lt_of_mul_lt_mul_right this (by omega)
  obtain rfl : a = b := by omega
  rw [ha, hb]

theorem pw_same {p q : Nat} (h : pw (p + 1) = pw (q + 1)) : p = q := by
  rcases Nat.lt_trichotomy p q with h1 | h1 | h1
  · have := pw_grow h1; have h2 := pw_succ q; have h3 := pw_pos q; omega
  · exact h1
  · have := pw_grow h1; have h2 := pw_succ p; have h3 := pw_pos p; omega

/-! What stands. -/

theorem Blk.one {w : World} {b : Nat} {vs us : Array Value} {t s : TypeId} (h : Blk w b vs t) (k : Blk w b us s) : vs = us ∧ t = s := by
  unfold Blk at h k
  rw [h] at k
  simp at k
  exact k

theorem Got.node {w : World} {eb wb xb ob nb base : Nat} {v : Value} {L : List Ch2} {b : Nat} {u1 u2 : Value} (h : Got w eb wb xb ob nb base v L) (hB : Blk w b #[u1, u2] 125) : b ∉ gotB eb wb xb ob nb v := by
  intro hm
  simp only [gotB, List.mem_cons] at hm
  rcases hm with rfl | rfl | rfl | rfl | rfl | hm
  · have := (hB.one h.e).1; simp at this
  · have := (hB.one h.wl).1; simp at this
  · have := (hB.one h.x).1; simp at this
  · have := (hB.one h.o).1; simp at this
  · have := (hB.one h.n).1; simp at this
  · have hm2 : v.ownBlock = some b := by simpa using hm
    obtain ⟨_, ho⟩ := h.own
    rcases ho with ⟨rfl, _⟩ | ⟨g, cap, cur, rfl, _, hb, _⟩
    · simp [Value.ownBlock] at hm2
    · simp [Value.ownBlock] at hm2
      subst hm2
      have := (hB.one (show Blk w g cur 47 from hb)).2
      exact absurd this (by decide)

theorem SeenAt.side {w : World} {sb b : Nat} {S : Nat → Sl} {y : Tr} {first : Bool} (h : SeenAt w sb b S y first) : SideOf w sb S y first := by
  obtain ⟨lo, hi, h1, h2, h3, h4, h5⟩ := h
  exact ⟨lo, hi, _, h1, h2, h3, Or.inr ⟨b, rfl, h4, h5⟩⟩

/-- A block that holds no side of the list's and is none of the variables. -/
def Sides (w : World) (Y : List Nat) : Prop := ∀ k, k ∈ Y → ∃ h lo hi np f, SideAt w k h lo hi np f

theorem node_off {w : World} {Y : List Nat} {eb wb xb ob nb base : Nat} {v : Value} {L : List Ch2} {b : Nat} {u1 u2 : Value} (h : Got w eb wb xb ob nb base v L) (hY : Sides w Y) (hB : Blk w b #[u1, u2] 125) : b ∉ Y ++ gotB eb wb xb ob nb v := by
  intro hm
  rcases List.mem_append.1 hm with hm | hm
  · obtain ⟨h1, lo, hi, np, f, hs⟩ := hY b hm
    have := (hB.one hs).1
    simp at this
  · exact h.node hB hm

theorem SideOf.keep {w w' : World} {Y : List Nat} {eb wb xb ob nb base : Nat} {v : Value} {L : List Ch2} {sb : Nat} {S : Nat → Sl} {y : Tr} {first : Bool} (hS : SideOf w sb S y first) (h : Got w eb wb xb ob nb base v L) (hY : Sides w Y) (h1 : sb ∉ Y ++ gotB eb wb xb ob nb v) (o : Only (Y ++ gotB eb wb xb ob nb v) w w') : SideOf w' sb S y first := by
  obtain ⟨lo, hi, np, a1, a2, a3, a4⟩ := hS
  refine ⟨lo, hi, np, Blk.only a1 o h1, a2, a3, ?_⟩
  rcases a4 with a4 | ⟨b, e, hb, hB⟩
  · exact Or.inl a4
  · exact Or.inr ⟨b, e, hb, hB.only o (node_off h hY hB)⟩

theorem SeenAt.keep {w w' : World} {Y : List Nat} {eb wb xb ob nb base : Nat} {v : Value} {L : List Ch2} {sb b : Nat} {S : Nat → Sl} {y : Tr} {first : Bool} (hS : SeenAt w sb b S y first) (h : Got w eb wb xb ob nb base v L) (hY : Sides w Y) (h1 : sb ∉ Y ++ gotB eb wb xb ob nb v) (o : Only (Y ++ gotB eb wb xb ob nb v) w w') : SeenAt w' sb b S y first := by
  obtain ⟨lo, hi, a1, a2, a3, a4, hB⟩ := hS
  exact ⟨lo, hi, Blk.only a1 o h1, a2, a3, a4, hB.only o (node_off h hY hB)⟩

theorem SideOf.plain {w w' : World} {sb : Nat} {S : Nat → Sl} {y : Tr} {first : Bool} (hS : SideOf w sb S y first) (o : Only [] w w') : SideOf w' sb S y first := by
  obtain ⟨lo, hi, np, a1, a2, a3, a4⟩ := hS
  refine ⟨lo, hi, np, Blk.only a1 o (by simp), a2, a3, ?_⟩
  rcases a4 with a4 | ⟨b, e, hb, hB⟩
  · exact Or.inl a4
  · exact Or.inr ⟨b, e, hb, hB.only o (by simp)⟩

theorem SeenAt.plain {w w' : World} {sb b : Nat} {S : Nat → Sl} {y : Tr} {first : Bool} (hS : SeenAt w sb b S y first) (o : Only [] w w') : SeenAt w' sb b S y first := by
  obtain ⟨lo, hi, a1, a2, a3, a4, hB⟩ := hS
  exact ⟨lo, hi, Blk.only a1 o (by simp), a2, a3, a4, hB.only o (by simp)⟩

theorem SideOf.sides {w : World} {sb : Nat} {S : Nat → Sl} {y : Tr} {first : Bool} (hS : SideOf w sb S y first) : ∃ h lo hi np f, SideAt w sb h lo hi np f := by
  obtain ⟨lo, hi, np, a1, _⟩ := hS
  exact ⟨_, _, _, _, _, a1⟩

/-- A side's block is apart from all else. -/
structure Apt (A : PA) (tb db eb wb xb ob nb : Nat) (v : Value) (sb : Nat) : Prop where
  t : tb ≠ sb
  d : db ≠ sb
  a : sb ∉ A.all
  g : sb ∉ gotB eb wb xb ob nb v

/-- What has come since the world w: so many changes more; written was to the blocks X, the variables, and newer ones alone. -/
structure Pg (A : PA) (n : Nat) (S : Nat → Sl) (t : Int) (fs : List Nat) (fa : Int) (tb db eb wb xb ob nb base : Nat) (v : Value) (L : List Ch2) (X : List Nat) (w : World) (M : List Ch2) (v' : Value) (w' : World) : Prop where
  dcx : Dcx A n S t fs fa tb db eb wb xb ob nb base v' (L ++ M) w'
  only : Only (X ++ gotB eb wb xb ob nb v) w w'
  own : ∀ b, v'.ownBlock = some b → v.ownBlock = some b ∨ w.heap.size ≤ b

section
variable {A : PA} {n : Nat} {S : Nat → Sl} {t : Int} {fs : List Nat} {fa : Int} {tb db eb wb xb ob nb base : Nat} {v v' : Value} {L M : List Ch2} {X : List Nat} {w w' w'' : World}

theorem Pg.start (h : Dcx A n S t fs fa tb db eb wb xb ob nb base v L w) : Pg A n S t fs fa tb db eb wb xb ob nb base v L X w [] v w := ⟨by rw [List.append_nil]; exact h, Only.refl _ _, fun b hb => Or.inl hb⟩

theorem Pg.plain (h : Pg A n S t fs fa tb db eb wb xb ob nb base v L X w M v' w') (o : Only [] w' w'') : Pg A n S t fs fa tb db eb wb xb ob nb base v L X w M v' w'' := ⟨h.dcx.plain o, h.only.trans (o.mono (by simp)), h.own⟩

theorem Pg.write {Y : List Nat} (h : Pg A n S t fs fa tb db eb wb xb ob nb base v L X w M v' w') (o : Only Y w' w'') (hY : ∀ k, k ∈ Y → (k ∈ X ∨ w.heap.size ≤ k) ∧ Apt A tb db eb wb xb ob nb v' k) : Pg A n S t fs fa tb db eb wb xb ob nb base v L X w M v' w'' :=
  ⟨h.dcx.only o (fun hm => (hY _ hm).2.t rfl) (fun hm => (hY _ hm).2.d rfl) (fun k hk hm => (hY _ hm).2.a hk) (fun k hk hm => (hY _ hm).2.g hk), h.only.past o (fun i hi => (hY i hi).1.imp (fun h => List.mem_append_left _ h) id), h.own⟩

/-- Behind a call that has given more. -/
theorem Pg.more {Y : List Nat} {M2 : List Ch2} {e : Ending} (h : Pg A n S t fs fa tb db eb wb xb ob nb base v L X w M v' w') (m : MorePost eb wb xb ob nb base v' (L ++ M) M2 Y w' e w'') (hY : ∀ k, k ∈ Y → (k ∈ X ∨ w.heap.size ≤ k) ∧ Apt A tb db eb wb xb ob nb v' k) :
    e = .returned (.bool true) ∧ ∃ v'', Pg A n S t fs fa tb db eb wb xb ob nb base v L X w (M ++ M2) v'' w'' ∧ Only (Y ++ gotB eb wb xb ob nb v') w' w'' ∧ ∀ b, b < w'.heap.size → b ∉ gotB eb wb xb ob nb v' → b ∉ gotB eb wb xb ob nb v'' := by
  obtain ⟨v'', h1, h2, h3⟩ := h.dcx.more m (fun hm => (hY _ hm).2.t rfl) (fun hm => (hY _ hm).2.d rfl) (fun k hk hm => (hY _ hm).2.a hk)
  refine ⟨m.1, v'', ⟨by rw [← List.append_assoc]; exact h1, h.only.past h2 ?_, ?_⟩, h2, fun b hb hn => gotB_old hb hn h3⟩
  · intro i hi
    rcases List.mem_append.1 hi with hi | hi
    · exact (hY i hi).1.imp (fun h => List.mem_append_left _ h) id
    · by_cases hio : i < w.heap.size
      · left
        refine List.mem_append_right _ ?_
        by_cases hn : i ∈ gotB eb wb xb ob nb v
        · exact hn
        · exact absurd hi (gotB_old hio hn h.own)
      · exact Or.inr (by omega)
  · intro b hb
    rcases h3 b hb with h4 | h4
    · exact h.own b h4
    · exact Or.inr (Nat.le_trans h.only.size h4)

theorem Pg.done (h : Pg A n S t fs fa tb db eb wb xb ob nb base v L X w M v' w') : MorePost eb wb xb ob nb base v L M X w (.returned (.bool true)) w' := ⟨rfl, v', h.dcx.got, h.only, h.own⟩

/-- A block that came new is apart. -/
theorem Dcx.fresh {v : Value} {L : List Ch2} {w : World} (h : Dcx A n S t fs fa tb db eb wb xb ob nb base v L w) {sb : Nat} (hs : w.heap.size ≤ sb) : Apt A tb db eb wb xb ob nb v sb :=
  ⟨by have := h.tr.lt.1; omega, by have := h.df.lt; omega, fun hm => by have := h.tr.lt.2 _ hm; omega, fun hm => by have := h.got.lt _ hm; omega⟩

end

/-- A node's value under its interface: its method; is it an inner one? -/
theorem shape_facts (S : Nat → Sl) {x : Tr} (h : x.wf) : ∃ ty sv f, shV S x = .iface ty sv ∧ (∀ w, (method 316 ty sv "skein/trie.span").run Try.prog w = .ok (f, sv) w) ∧ (∀ w, (callFunc f #[sv]).run Try.prog w = .ok (.enter f #[sv]) w) ∧ (∀ w, Calls Try.prog f #[sv] w fun e w' => e = .returned (.tuple #[.int .i64 x.lo, .int .i64 x.hi]) ∧ Only [] w w') ∧
    ∃ a b c d e : Int, (∀ w, (Instr.typeAssert (.iface ty sv) 123 135 true).run Try.prog w = .ok (.tuple #[.agg #[.int .i64 a, .int .i64 b, .int .i64 c, .int .i64 d, .int .i64 e], .bool (!x.isLeaf)]) w) ∧
      (∀ i p f l r, x = .node i p f l r → a = (p : Nat) ∧ b = f ∧ c = hnd S l ∧ d = hnd S r ∧ e = (x.cnt : Nat)) ∧
      (∀ i k u, x = .leaf i k u → ∀ w, (Instr.typeAssert (.iface ty sv) 123 129 false).run Try.prog w = .ok (.agg #[.int .i64 k, .int .i64 u]) w) := by
  cases x with
  | leaf i k v =>
    refine ⟨_, _, _, rfl, fun w => meth_leaf k v w, fun w => enter_leaf k v w, fun w => leaf_span k v w, 0, 0, 0, 0, 0, fun w => assert_leaf k v w, ?_, ?_⟩
    · intro _ _ _ _ _ h; simp at h
    · intro _ _ _ h w
      simp at h
      obtain ⟨_, rfl, rfl⟩ := h
      kernel_rfl
  | node i p f l r =>
    obtain ⟨hp, _, hf0, hfM, _⟩ := h
    have := pw_pos (p + 1)
    refine ⟨_, _, _, rfl, fun w => meth_inner p f _ _ _ w, fun w => enter_inner p f _ _ _ w, fun w => inner_span p f _ _ _ hp ⟨hf0, by omega⟩ w, p, f, hnd S l, hnd S r, ((Tr.node i p f l r).cnt : Nat), fun w => assert_inner p f _ _ _ w, ?_, ?_⟩
    · intro _ _ _ _ _ h
      simp at h
      obtain ⟨_, rfl, rfl, rfl, rfl⟩ := h
      exact ⟨rfl, rfl, rfl, rfl, rfl⟩
    · intro _ _ _ h; simp at h

end Go.Proofs.Ytacegkjobfeiiaa

namespace Go.Proofs.Ytacegkjobfeiiaa
open Go.RowKit

set_option maxRecDepth 100000 in
set_option maxHeartbeats 4000000 in
theorem beside_same {A : PA} {n : Nat} {S : Nat → Sl} {t : Int} {fs : List Nat} {fa : Int} {tb db eb wb xb ob nb base sa sb : Nat} {v : Value} {L : List Ch2} {w : World} {hx l1 h1 l2 h2 : Int} {n1 n2 : Value} {f1 f2 : Bool} (h : Dcx A n S t fs fa tb db eb wb xb ob nb base v L w) (hA : SideAt w sa hx l1 h1 n1 f1) (hB : SideAt w sb hx l2 h2 n2 f2) :
    Calls Try.prog 33 #[.pointer (some ⟨db, 0, none⟩), .pointer (some ⟨sa, 0, none⟩), .pointer (some ⟨sb, 0, none⟩)] w (MorePost eb wb xb ob nb base v L [] [sa, sb] w) := by
  have s0 := Blk.cell hA 0 rfl
  have t0 := Blk.cell hB 0 rfl
  have e1 : (hx == hx) = true := by simp
  have HP0 := Lib.hid (Pg.start (X := [sa, sb]) h)
  clear h hA hB
  go_enter Try.func33, Try.ntmps33
  go_upto_region 1 with fail
  go_quiet (fail)
  go_wp2_with fail
  go_ret
  exact (HP0.out.plain (Only.drewN _ _ _)).done

theorem side_lt {w : World} {sb : Nat} {S : Nat → Sl} {y : Tr} {first : Bool} (hS : SideOf w sb S y first) : sb < w.heap.size := by
  obtain ⟨_, _, _, h, _⟩ := hS
  exact Blk.lt h

set_option maxRecDepth 100000 in
set_option maxHeartbeats 4000000 in
theorem beside_left {A : PA} {n : Nat} {S : Nat → Sl} {t : Int} {fs : List Nat} {fa : Int} {tb db eb wb xb ob nb base sa sb : Nat} {v : Value} {L : List Ch2} {w : World} {x y : Tr} (h : Dcx A n S t fs fa tb db eb wb xb ob nb base v L w) (Rx : Rep n S x) (Ry : Rep n S y) (wx : x.wf) (wy : y.wf) (hA : SideOf w sa S x true) (hB : SideOf w sb S y false) (hl : L.length + x.cnt + y.cnt ≤ 1000000) (pa : Apt A tb db eb wb xb ob nb v sa) (pb : Apt A tb db eb wb xb ob nb v sb) (hab : sa ≠ sb) (hh : hnd S x ≠ hnd S y) (hc : x.hi < y.lo) :
    Calls Try.prog 33 #[.pointer (some ⟨db, 0, none⟩), .pointer (some ⟨sa, 0, none⟩), .pointer (some ⟨sb, 0, none⟩)] w (MorePost eb wb xb ob nb base v L (md x.pairs y.pairs) [sa, sb] w) := by
  have hpx := hnd_pos Rx
  have hpy := hnd_pos Ry
  obtain ⟨tx, vx, fx, hsx, hmx, hex, hspx, xp, xf, xl, xr, xc, htx, hfx, hlx⟩ := shape_facts S wx
  obtain ⟨ty, vy, fy, hsy, hmy, hey, hspy, yp, yf, yl, yr, yc, hty, hfy, hly⟩ := shape_facts S wy
  have HSX := Lib.hid hsx
  have HSY := Lib.hid hsy
  obtain ⟨xlo, hxlo⟩ : ∃ u, x.lo = u := ⟨_, rfl⟩
  obtain ⟨xhi, hxhi⟩ : ∃ u, x.hi = u := ⟨_, rfl⟩
  obtain ⟨ylo, hylo⟩ : ∃ u, y.lo = u := ⟨_, rfl⟩
  obtain ⟨yhi, hyhi⟩ : ∃ u, y.hi = u := ⟨_, rfl⟩
  rw [hxlo, hxhi] at hspx
  rw [hylo, hyhi] at hspy
  have HPX := Lib.hid hspx
  have HPY := Lib.hid hspy
  have HFX := Lib.hid hfx
  have HFY := Lib.hid hfy
  have HLX := Lib.hid hlx
  have HLY := Lib.hid hly
  have HXB := Lib.hid (show x.lo = xlo ∧ x.hi = xhi ∧ y.lo = ylo ∧ y.hi = yhi from ⟨hxlo, hxhi, hylo, hyhi⟩)
  have HIN := Lib.hid (show Rep n S x ∧ Rep n S y ∧ x.wf ∧ y.wf ∧ L.length + x.cnt + y.cnt ≤ 1000000 ∧ Apt A tb db eb wb xb ob nb v sa ∧ Apt A tb db eb wb xb ob nb v sb ∧ sa ≠ sb from ⟨Rx, Ry, wx, wy, hl, pa, pb, hab⟩)
  have HP0 := Lib.hid (Pg.start (X := [sa, sb]) h)
  have HA0 := Lib.hid hA
  have HB0 := Lib.hid hB
  have hc1 : decide (xhi < ylo) = true := by simp; omega
  have HC := Lib.hid hc
  clear hc
  obtain ⟨_, _, _, a1, _⟩ := hA
  obtain ⟨_, _, _, b1, _⟩ := hB
  have s0 := Blk.cell a1 0 rfl
  have t0 := Blk.cell b1 0 rfl
  obtain ⟨hx, hhx⟩ : ∃ u, hnd S x = u := ⟨_, rfl⟩
  obtain ⟨hy, hhy⟩ : ∃ u, hnd S y = u := ⟨_, rfl⟩
  rw [hhx] at hh hpx s0
  rw [hhy] at hh hpy t0
  have e1 : (hx == hy) = false := by simpa using hh
  have e2 : (hx == 0) = false := by simp; omega
  have e3 : (hy == 0) = false := by simp; omega
  have HHX := Lib.hid hhx
  have HHY := Lib.hid hhy
  clear h Rx Ry wx wy hl pa pb hab hh hpx hpy hsx hsy hspx hspy hxlo hxhi hylo hyhi a1 b1 hhx hhy hfx hfy hlx hly
  go_enter Try.func33, Try.ntmps33
  go_upto_region 1 with fail
  go_quiet (fail)
  go_upto_if 15 with fail
  refine wp_name (fun w1 => Only [] w w1 ∧ w1.cell? ⟨sa, 0, none⟩ = some (.int .i64 hx) ∧ w1.cell? ⟨sb, 0, none⟩ = some (.int .i64 hy)) ⟨Only.drewN _ _ _, s0, t0⟩ ?_
  clear s0 t0
  rintro w1 ⟨hO1, s0, t0⟩
  have HP1 := Lib.hid (HP0.out.plain hO1)
  have HB1 := Lib.hid (HB0.out.plain hO1)
  have HSEA := Lib.hid (diff_see HP1.out.dcx.tr HIN.out.1 HIN.out.2.2.1 HP1.out.dcx.df (HA0.out.plain hO1))
  have HG1 : Hid (Sides w1 [sa]) := Lib.hid (fun k hk => by simp at hk; subst hk; exact (HA0.out.plain hO1).sides)
  clear hO1 HP0 HA0 HB0
  go_wp2_with fail
  refine HSEA.out.mono ?_
  rintro e w2 ⟨rfl, ba, hA2, hX2⟩
  have HP2 := Lib.hid (HP1.out.write hX2 (by intro k hk; simp at hk; subst hk; exact ⟨Or.inl (by simp), HIN.out.2.2.2.2.2.1⟩))
  have hB2 := HB1.out.keep HP1.out.dcx.got HG1.out (by simp only [List.mem_append, List.mem_singleton]; rintro (hm | hm); exact HIN.out.2.2.2.2.2.2.2 hm.symm; exact HIN.out.2.2.2.2.2.2.1.g hm) (hX2.mono (by intro k hk; exact List.mem_append_left _ hk))
  have HA2 := Lib.hid hA2
  have HG2 : Hid (Sides w2 [sb]) := Lib.hid (fun k hk => by simp at hk; subst hk; exact hB2.sides)
  have HSEB := Lib.hid (diff_see HP2.out.dcx.tr HIN.out.2.1 HIN.out.2.2.2.1 HP2.out.dcx.df hB2)
  clear hA2 hX2 hB2 HSEA HG1 HP1 HB1
  go_wp2_with fail
  refine HSEB.out.mono ?_
  rintro e w3 ⟨rfl, bb, hB3, hX3⟩
  have HP3 := Lib.hid (HP2.out.write hX3 (by intro k hk; simp at hk; subst hk; exact ⟨Or.inl (by simp), HIN.out.2.2.2.2.2.2.1⟩))
  have hA3 := HA2.out.keep HP2.out.dcx.got HG2.out (by simp only [List.mem_append, List.mem_singleton]; rintro (hm | hm); exact HIN.out.2.2.2.2.2.2.2 hm; exact HIN.out.2.2.2.2.2.1.g hm) (hX3.mono (by intro k hk; exact List.mem_append_left _ hk))
  have HA3 := Lib.hid hA3
  have HB3 := Lib.hid hB3
  obtain ⟨alo, ahi, a1, _, _, _, a2⟩ := hA3
  rw [HSX.out] at a2
  have s3 := Blk.cell a1 3 rfl
  have u1 := a2.cell 1 rfl
  clear s0 t0 hX3 HSEB HG2 HP2 HA2 a1 a2 hB3
  go_wp2_with fail
  refine (HPX.out _).mono ?_
  rintro e w4 ⟨rfl, hX4⟩
  have HP4 := Lib.hid (HP3.out.plain hX4)
  have HA4 := Lib.hid (HA3.out.plain hX4)
  have hB4 := HB3.out.plain hX4
  have HB4 := Lib.hid hB4
  obtain ⟨blo, bhi, b1, _, _, _, b2⟩ := hB4
  rw [HSY.out] at b2
  have s3 := Blk.cell b1 3 rfl
  have u1 := b2.cell 1 rfl
  clear hX4 HP3 HA3 HB3 b1 b2
  go_wp2_with fail
  refine (HPY.out _).mono ?_
  rintro e w5 ⟨rfl, hX5⟩
  have HP5 := Lib.hid (HP4.out.plain hX5)
  have HA5 := Lib.hid (HA4.out.plain hX5)
  have HB5 := Lib.hid (HB4.out.plain hX5)
  clear hX5 HP4 HA4 HB4 s3 u1 hmx hex hmy hey
  have HAP5 : Hid (Apt A tb db eb wb xb ob nb v sa ∧ Apt A tb db eb wb xb ob nb v sb) := Lib.hid ⟨HIN.out.2.2.2.2.2.1, HIN.out.2.2.2.2.2.2.1⟩
  have HALL := Lib.hid (diff_all x HP5.out.dcx HIN.out.1 HIN.out.2.2.1 HA5.out.side (by have := HIN.out.2.2.2.2.1; simp; omega) HIN.out.2.2.2.2.2.1.t HIN.out.2.2.2.2.2.1.d HIN.out.2.2.2.2.2.1.a HAP5.out.1.g)
  go_wp2_with fail
  refine HALL.out.mono ?_
  rintro e w6 hm6
  obtain ⟨rfl, v6, hP6, hX6, hn6⟩ := HP5.out.more hm6 (by intro k hk; simp at hk; subst hk; exact ⟨Or.inl (by simp), HAP5.out.1⟩)
  have hq := HAP5.out.2.g
  have h2 := HB5.out.side.keep HP5.out.dcx.got (Y := [sa]) (fun k hk => by simp at hk; subst hk; exact HA5.out.side.sides) (by simp only [List.mem_append, List.mem_singleton]; rintro (hm | hm); exact HIN.out.2.2.2.2.2.2.2 hm.symm; exact hq hm) hX6
  have HAP6 : Hid (Apt A tb db eb wb xb ob nb v6 sb) := Lib.hid ⟨HIN.out.2.2.2.2.2.2.1.t, HIN.out.2.2.2.2.2.2.1.d, HIN.out.2.2.2.2.2.2.1.a, hn6 _ (side_lt HB5.out.side) hq⟩
  have HP6 := Lib.hid hP6
  have HALL2 := Lib.hid (diff_all y hP6.dcx HIN.out.2.1 HIN.out.2.2.2.1 h2 (by have := HIN.out.2.2.2.2.1; simp [allC_length]; omega) HAP6.out.t HAP6.out.d HAP6.out.a HAP6.out.g)
  clear hm6 hP6 hX6 hn6 hq h2 HALL
  go_wp2_with fail
  refine HALL2.out.mono ?_
  rintro e w7 hm7
  obtain ⟨rfl, v7, hP7, _, _⟩ := HP6.out.more hm7 (by intro k hk; simp at hk; subst hk; exact ⟨Or.inl (by simp), HAP6.out⟩)
  have HP7 := Lib.hid hP7
  clear hm7 hP7 HALL2
  go_wp2_with fail
  go_ret
  rw [md_apart_left HIN.out.2.2.1 HIN.out.2.2.2.1 HC.out]
  exact HP7.out.done

set_option maxRecDepth 100000 in
set_option maxHeartbeats 4000000 in
theorem beside_right {A : PA} {n : Nat} {S : Nat → Sl} {t : Int} {fs : List Nat} {fa : Int} {tb db eb wb xb ob nb base sa sb : Nat} {v : Value} {L : List Ch2} {w : World} {x y : Tr} (h : Dcx A n S t fs fa tb db eb wb xb ob nb base v L w) (Rx : Rep n S x) (Ry : Rep n S y) (wx : x.wf) (wy : y.wf) (hA : SideOf w sa S x true) (hB : SideOf w sb S y false) (hl : L.length + x.cnt + y.cnt ≤ 1000000) (pa : Apt A tb db eb wb xb ob nb v sa) (pb : Apt A tb db eb wb xb ob nb v sb) (hab : sa ≠ sb) (hh : hnd S x ≠ hnd S y) (hc0 : ¬ x.hi < y.lo) (hc : y.hi < x.lo) :
    Calls Try.prog 33 #[.pointer (some ⟨db, 0, none⟩), .pointer (some ⟨sa, 0, none⟩), .pointer (some ⟨sb, 0, none⟩)] w (MorePost eb wb xb ob nb base v L (md x.pairs y.pairs) [sa, sb] w) := by
  have hpx := hnd_pos Rx
  have hpy := hnd_pos Ry
  obtain ⟨tx, vx, fx, hsx, hmx, hex, hspx, xp, xf, xl, xr, xc, htx, hfx, hlx⟩ := shape_facts S wx
  obtain ⟨ty, vy, fy, hsy, hmy, hey, hspy, yp, yf, yl, yr, yc, hty, hfy, hly⟩ := shape_facts S wy
  have HSX := Lib.hid hsx
  have HSY := Lib.hid hsy
  obtain ⟨xlo, hxlo⟩ : ∃ u, x.lo = u := ⟨_, rfl⟩
  obtain ⟨xhi, hxhi⟩ : ∃ u, x.hi = u := ⟨_, rfl⟩
  obtain ⟨ylo, hylo⟩ : ∃ u, y.lo = u := ⟨_, rfl⟩
  obtain ⟨yhi, hyhi⟩ : ∃ u, y.hi = u := ⟨_, rfl⟩
  rw [hxlo, hxhi] at hspx
  rw [hylo, hyhi] at hspy
  have HPX := Lib.hid hspx
  have HPY := Lib.hid hspy
  have HFX := Lib.hid hfx
  have HFY := Lib.hid hfy
  have HLX := Lib.hid hlx
  have HLY := Lib.hid hly
  have HXB := Lib.hid (show x.lo = xlo ∧ x.hi = xhi ∧ y.lo = ylo ∧ y.hi = yhi from ⟨hxlo, hxhi, hylo, hyhi⟩)
  have HIN := Lib.hid (show Rep n S x ∧ Rep n S y ∧ x.wf ∧ y.wf ∧ L.length + x.cnt + y.cnt ≤ 1000000 ∧ Apt A tb db eb wb xb ob nb v sa ∧ Apt A tb db eb wb xb ob nb v sb ∧ sa ≠ sb from ⟨Rx, Ry, wx, wy, hl, pa, pb, hab⟩)
  have HP0 := Lib.hid (Pg.start (X := [sa, sb]) h)
  have HA0 := Lib.hid hA
  have HB0 := Lib.hid hB
  have hc1 : decide (xhi < ylo) = false := by simp; omega
  have hc2 : decide (yhi < xlo) = true := by simp; omega
  have HC := Lib.hid hc
  clear hc hc0
  obtain ⟨_, _, _, a1, _⟩ := hA
  obtain ⟨_, _, _, b1, _⟩ := hB
  have s0 := Blk.cell a1 0 rfl
  have t0 := Blk.cell b1 0 rfl
  obtain ⟨hx, hhx⟩ : ∃ u, hnd S x = u := ⟨_, rfl⟩
  obtain ⟨hy, hhy⟩ : ∃ u, hnd S y = u := ⟨_, rfl⟩
  rw [hhx] at hh hpx s0
  rw [hhy] at hh hpy t0
  have e1 : (hx == hy) = false := by simpa using hh
  have e2 : (hx == 0) = false := by simp; omega
  have e3 : (hy == 0) = false := by simp; omega
  have HHX := Lib.hid hhx
  have HHY := Lib.hid hhy
  clear h Rx Ry wx wy hl pa pb hab hh hpx hpy hsx hsy hspx hspy hxlo hxhi hylo hyhi a1 b1 hhx hhy hfx hfy hlx hly
  go_enter Try.func33, Try.ntmps33
  go_upto_region 1 with fail
  go_quiet (fail)
  go_upto_if 15 with fail
  refine wp_name (fun w1 => Only [] w w1 ∧ w1.cell? ⟨sa, 0, none⟩ = some (.int .i64 hx) ∧ w1.cell? ⟨sb, 0, none⟩ = some (.int .i64 hy)) ⟨Only.drewN _ _ _, s0, t0⟩ ?_
  clear s0 t0
  rintro w1 ⟨hO1, s0, t0⟩
  have HP1 := Lib.hid (HP0.out.plain hO1)
  have HB1 := Lib.hid (HB0.out.plain hO1)
  have HSEA := Lib.hid (diff_see HP1.out.dcx.tr HIN.out.1 HIN.out.2.2.1 HP1.out.dcx.df (HA0.out.plain hO1))
  have HG1 : Hid (Sides w1 [sa]) := Lib.hid (fun k hk => by simp at hk; subst hk; exact (HA0.out.plain hO1).sides)
  clear hO1 HP0 HA0 HB0
  go_wp2_with fail
  refine HSEA.out.mono ?_
  rintro e w2 ⟨rfl, ba, hA2, hX2⟩
  have HP2 := Lib.hid (HP1.out.write hX2 (by intro k hk; simp at hk; subst hk; exact ⟨Or.inl (by simp), HIN.out.2.2.2.2.2.1⟩))
  have hB2 := HB1.out.keep HP1.out.dcx.got HG1.out (by simp only [List.mem_append, List.mem_singleton]; rintro (hm | hm); exact HIN.out.2.2.2.2.2.2.2 hm.symm; exact HIN.out.2.2.2.2.2.2.1.g hm) (hX2.mono (by intro k hk; exact List.mem_append_left _ hk))
  have HA2 := Lib.hid hA2
  have HG2 : Hid (Sides w2 [sb]) := Lib.hid (fun k hk => by simp at hk; subst hk; exact hB2.sides)
  have HSEB := Lib.hid (diff_see HP2.out.dcx.tr HIN.out.2.1 HIN.out.2.2.2.1 HP2.out.dcx.df hB2)
  clear hA2 hX2 hB2 HSEA HG1 HP1 HB1
  go_wp2_with fail
  refine HSEB.out.mono ?_
  rintro e w3 ⟨rfl, bb, hB3, hX3⟩
  have HP3 := Lib.hid (HP2.out.write hX3 (by intro k hk; simp at hk; subst hk; exact ⟨Or.inl (by simp), HIN.out.2.2.2.2.2.2.1⟩))
  have hA3 := HA2.out.keep HP2.out.dcx.got HG2.out (by simp only [List.mem_append, List.mem_singleton]; rintro (hm | hm); exact HIN.out.2.2.2.2.2.2.2 hm; exact HIN.out.2.2.2.2.2.1.g hm) (hX3.mono (by intro k hk; exact List.mem_append_left _ hk))
  have HA3 := Lib.hid hA3
  have HB3 := Lib.hid hB3
  obtain ⟨alo, ahi, a1, _, _, _, a2⟩ := hA3
  rw [HSX.out] at a2
  have s3 := Blk.cell a1 3 rfl
  have u1 := a2.cell 1 rfl
  clear s0 t0 hX3 HSEB HG2 HP2 HA2 a1 a2 hB3
  go_wp2_with fail
  refine (HPX.out _).mono ?_
  rintro e w4 ⟨rfl, hX4⟩
  have HP4 := Lib.hid (HP3.out.plain hX4)
  have HA4 := Lib.hid (HA3.out.plain hX4)
  have hB4 := HB3.out.plain hX4
  have HB4 := Lib.hid hB4
  obtain ⟨blo, bhi, b1, _, _, _, b2⟩ := hB4
  rw [HSY.out] at b2
  have s3 := Blk.cell b1 3 rfl
  have u1 := b2.cell 1 rfl
  clear hX4 HP3 HA3 HB3 b1 b2
  go_wp2_with fail
  refine (HPY.out _).mono ?_
  rintro e w5 ⟨rfl, hX5⟩
  have HP5 := Lib.hid (HP4.out.plain hX5)
  have HA5 := Lib.hid (HA4.out.plain hX5)
  have HB5 := Lib.hid (HB4.out.plain hX5)
  clear hX5 HP4 HA4 HB4 s3 u1 hmx hex hmy hey
  have HAP5 : Hid (Apt A tb db eb wb xb ob nb v sb ∧ Apt A tb db eb wb xb ob nb v sa) := Lib.hid ⟨HIN.out.2.2.2.2.2.2.1, HIN.out.2.2.2.2.2.1⟩
  have HALL := Lib.hid (diff_all y HP5.out.dcx HIN.out.2.1 HIN.out.2.2.2.1 HB5.out.side (by have := HIN.out.2.2.2.2.1; simp; omega) HIN.out.2.2.2.2.2.2.1.t HIN.out.2.2.2.2.2.2.1.d HIN.out.2.2.2.2.2.2.1.a HAP5.out.1.g)
  go_wp2_with fail
  refine HALL.out.mono ?_
  rintro e w6 hm6
  obtain ⟨rfl, v6, hP6, hX6, hn6⟩ := HP5.out.more hm6 (by intro k hk; simp at hk; subst hk; exact ⟨Or.inl (by simp), HAP5.out.1⟩)
  have hq := HAP5.out.2.g
  have h2 := HA5.out.side.keep HP5.out.dcx.got (Y := [sb]) (fun k hk => by simp at hk; subst hk; exact HB5.out.side.sides) (by simp only [List.mem_append, List.mem_singleton]; rintro (hm | hm); exact HIN.out.2.2.2.2.2.2.2 hm; exact hq hm) hX6
  have HAP6 : Hid (Apt A tb db eb wb xb ob nb v6 sa) := Lib.hid ⟨HIN.out.2.2.2.2.2.1.t, HIN.out.2.2.2.2.2.1.d, HIN.out.2.2.2.2.2.1.a, hn6 _ (side_lt HA5.out.side) hq⟩
  have HP6 := Lib.hid hP6
  have HALL2 := Lib.hid (diff_all x hP6.dcx HIN.out.1 HIN.out.2.2.1 h2 (by have := HIN.out.2.2.2.2.1; simp [allC_length]; omega) HAP6.out.t HAP6.out.d HAP6.out.a HAP6.out.g)
  clear hm6 hP6 hX6 hn6 hq h2 HALL
  go_wp2_with fail
  refine HALL2.out.mono ?_
  rintro e w7 hm7
  obtain ⟨rfl, v7, hP7, _, _⟩ := HP6.out.more hm7 (by intro k hk; simp at hk; subst hk; exact ⟨Or.inl (by simp), HAP6.out⟩)
  have HP7 := Lib.hid hP7
  clear hm7 hP7 HALL2
  go_wp2_with fail
  go_ret
  rw [md_apart_right HIN.out.2.2.1 HIN.out.2.2.2.1 HC.out]
  exact HP7.out.done

end Go.Proofs.Ytacegkjobfeiiaa

namespace Go.Proofs.Ytacegkjobfeiiaa
open Go.RowKit

/-- A side that has been read, and the copy of its inner node. -/
structure Hb (A : PA) (tb db eb wb xb ob nb : Nat) (S : Nat → Sl) (sa ba ib : Nat) (xp xf xl xr xc : Int) (x : Tr) (first : Bool) (v : Value) (w : World) : Prop where
  see : SeenAt w sa ba S x first
  blk : Blk w ib #[.int .i64 xp, .int .i64 xf, .int .i64 xl, .int .i64 xr, .int .i64 xc] 135
  apt : Apt A tb db eb wb xb ob nb v sa
  off : ib ∉ gotB eb wb xb ob nb v

section
variable {A : PA} {n : Nat} {S : Nat → Sl} {t : Int} {fs : List Nat} {fa : Int} {tb db eb wb xb ob nb base : Nat} {v v' : Value} {L : List Ch2} {w w' : World} {sa ba ib : Nat} {xp xf xl xr xc : Int} {x : Tr} {first : Bool}

theorem Hb.plain (h : Hb A tb db eb wb xb ob nb S sa ba ib xp xf xl xr xc x first v w) (o : Only [] w w') : Hb A tb db eb wb xb ob nb S sa ba ib xp xf xl xr xc x first v w' := ⟨h.see.plain o, h.blk.only o (by simp), h.apt, h.off⟩

theorem Hb.keep {Y : List Nat} (h : Hb A tb db eb wb xb ob nb S sa ba ib xp xf xl xr xc x first v w) (G : Got w eb wb xb ob nb base v L) (hY : Sides w Y) (hn : sa ∉ Y) (o : Only (Y ++ gotB eb wb xb ob nb v) w w') (hk : ∀ b, b < w.heap.size → b ∉ gotB eb wb xb ob nb v → b ∉ gotB eb wb xb ob nb v') : Hb A tb db eb wb xb ob nb S sa ba ib xp xf xl xr xc x first v' w' := by
  have h1 : sa ∉ Y ++ gotB eb wb xb ob nb v := by
    rw [List.mem_append]; rintro (hm | hm); exact hn hm; exact h.apt.g hm
  have h2 : ib ∉ Y ++ gotB eb wb xb ob nb v := by
    rw [List.mem_append]
    rintro (hm | hm)
    · obtain ⟨h1, lo, hi, np, f, hs⟩ := hY _ hm
      exact absurd (h.blk.one hs).2 (by decide)
    · exact h.off hm
  exact ⟨h.see.keep G hY h1 o, h.blk.only o h2, ⟨h.apt.t, h.apt.d, h.apt.a, hk _ (side_lt h.see.side) h.apt.g⟩, hk _ h.blk.lt h.off⟩

/-- A side made of a half. -/
def HalfPost (S : Nat → Sl) (y : Tr) (first : Bool) (w : World) (e : Ending) (w' : World) : Prop := ∃ q, e = .returned (.pointer (some ⟨q, 0, none⟩)) ∧ w.heap.size ≤ q ∧ SideOf w' q S y first ∧ Only [] w w'

theorem Hb.left {i p : Nat} {f : Int} {l r : Tr} (h : Hb A tb db eb wb xb ob nb S sa ba ib xp xf xl xr xc x first v w) (hx : x = .node i p f l r) (wx : x.wf) (he : xp = (p : Nat) ∧ xf = f ∧ xl = hnd S l ∧ xr = hnd S r ∧ xc = (x.cnt : Nat)) :
    Calls Try.prog 62 #[.pointer (some ⟨sa, 0, none⟩), .agg #[.int .i64 xp, .int .i64 xf, .int .i64 xl, .int .i64 xr, .int .i64 xc], .bool false] w (HalfPost S l first w) := by
  obtain ⟨lo, hi, hs, _⟩ := h.see
  subst hx
  obtain ⟨rfl, rfl, rfl, rfl, rfl⟩ := he
  obtain ⟨hp, hq, hf0, hfM, wl, wr, a1, a2, a3, a4⟩ := wx
  refine (side_left (hl := hnd S l) (hr := hnd S r) (c := ((Tr.node i p xf l r).cnt : Nat)) hs hp ⟨hf0, hfM⟩).mono ?_
  rintro e w1 ⟨q, rfl, h1, h2, h3⟩
  exact ⟨q, rfl, h1, ⟨_, _, _, h2, a1, a2, Or.inl rfl⟩, h3⟩

theorem Hb.right {i p : Nat} {f : Int} {l r : Tr} (h : Hb A tb db eb wb xb ob nb S sa ba ib xp xf xl xr xc x first v w) (hx : x = .node i p f l r) (wx : x.wf) (he : xp = (p : Nat) ∧ xf = f ∧ xl = hnd S l ∧ xr = hnd S r ∧ xc = (x.cnt : Nat)) :
    Calls Try.prog 62 #[.pointer (some ⟨sa, 0, none⟩), .agg #[.int .i64 xp, .int .i64 xf, .int .i64 xl, .int .i64 xr, .int .i64 xc], .bool true] w (HalfPost S r first w) := by
  obtain ⟨lo, hi, hs, _⟩ := h.see
  subst hx
  obtain ⟨rfl, rfl, rfl, rfl, rfl⟩ := he
  obtain ⟨hp, hq, hf0, hfM, wl, wr, a1, a2, a3, a4⟩ := wx
  refine (side_right (hl := hnd S l) (hr := hnd S r) (c := ((Tr.node i p xf l r).cnt : Nat)) hs hp ⟨hf0, hfM⟩).mono ?_
  rintro e w1 ⟨q, rfl, h1, h2, h3⟩
  exact ⟨q, rfl, h1, ⟨_, _, _, h2, a3, a4, Or.inl rfl⟩, h3⟩

end

theorem half_call {i p : Nat} {f mid : Int} {l r x : Tr} {S : Nat → Sl} {xp xf xl xr xc : Int} (hx : x = .node i p f l r) (wx : x.wf) (he : xp = (p : Nat) ∧ xf = f ∧ xl = hnd S l ∧ xr = hnd S r ∧ xc = (x.cnt : Nat)) (hm : f + pw p = mid) (w : World) :
    Calls Try.prog 63 #[.agg #[.int .i64 xp, .int .i64 xf, .int .i64 xl, .int .i64 xr, .int .i64 xc]] w fun e w' => e = .returned (.int .i64 mid) ∧ Only [] w w' := by
  subst hx
  obtain ⟨rfl, rfl, rfl, rfl, rfl⟩ := he
  obtain ⟨hp, hq, hf0, hfM, _⟩ := wx
  have := pw_pos (p + 1)
  subst hm
  exact inner_half p xf _ _ _ hp ⟨hf0, by omega⟩ w

/-- Two sides gone through, as a call: what beside is to show. -/
def BesideOk (A : PA) (n : Nat) (S : Nat → Sl) (t : Int) (fs : List Nat) (fa : Int) (tb db eb wb xb ob nb base : Nat) (x y : Tr) : Prop :=
  ∀ (sa sb : Nat) (v : Value) (L : List Ch2) (w : World), Dcx A n S t fs fa tb db eb wb xb ob nb base v L w → Rep n S x → Rep n S y → x.wf → y.wf → SideOf w sa S x true → SideOf w sb S y false → L.length + x.cnt + y.cnt ≤ 1000000 → Apt A tb db eb wb xb ob nb v sa → Apt A tb db eb wb xb ob nb v sb → sa ≠ sb →
    Calls Try.prog 33 #[.pointer (some ⟨db, 0, none⟩), .pointer (some ⟨sa, 0, none⟩), .pointer (some ⟨sb, 0, none⟩)] w (MorePost eb wb xb ob nb base v L (md x.pairs y.pairs) [sa, sb] w)

theorem md_length : ∀ (n : Nat) (xs ys : List KV), xs.length + ys.length ≤ n → (md xs ys).length ≤ xs.length + ys.length
  | n, [], ys, _ => by simp [md]
  | n, x :: xs, [], _ => by rw [md_nil_right]; simp
  | 0, x :: xs, y :: ys, h => by simp at h
  | n + 1, x :: xs, y :: ys, h => by
    simp only [List.length_cons] at h
    rw [md]
    split
    · have := md_length n xs (y :: ys) (by simp; omega); simp at *; omega
    · split
      · have := md_length n (x :: xs) ys (by simp; omega); simp at *; omega
      · have := md_length n xs ys (by omega)
        split <;> simp <;> omega

theorem md_cnt (x y : Tr) : (md x.pairs y.pairs).length ≤ x.cnt + y.cnt := by
  have := md_length _ x.pairs y.pairs (Nat.le_refl _)
  rwa [Tr.cnt_pairs, Tr.cnt_pairs] at this

end Go.Proofs.Ytacegkjobfeiiaa

