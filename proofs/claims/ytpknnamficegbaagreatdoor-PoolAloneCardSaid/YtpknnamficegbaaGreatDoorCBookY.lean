/- The book: laws for lists that are laid on. Each law names its conditions. · The book: what was written full is laid on. Condition: the kind's pieces stand in memory, apart from the others. · The book: what was written full is laid on. Condition: the kind's pieces stand in memory, apart from the others. -/
import Derived.Deep.RegionLaw
import Derived.Test.YtpknnamficegbaaGreatDoorCBookG
set_option linter.unusedVariables false
set_option linter.unusedSimpArgs false
set_option linter.unusedSectionVars false
set_option linter.unnecessarySimpa false
namespace Go.Proofs.YtpknnamficegbaaGreatDoor
open Go.RowKit

theorem rdr_src {ad : Option Addr} {n cap sz : Nat} {L : List Int} {St : List Nat} {w : World} (h : (⟨.slice ad n cap, n, L⟩ : Rdr).At St sz w) (hn : 0 < n) : (ad = none → n = 0 ∧ cap = 0) ∧ (∀ a, ad = some a → ∀ j u, (ints L)[j]? = some u → w.cell? (a.add j) = some u) ∧ (ints L).length = n * sz := by
  obtain ⟨hl, _, a1, c1, e, h1⟩ := h.open
  cases e
  obtain ⟨g, rfl, _, hc⟩ := h1 hn
  refine ⟨fun e => (by cases e), fun a e j u hu => ?_, by simpa [ints] using hl⟩
  cases e
  simp only [ints, List.getElem?_map, Option.map_eq_some_iff] at hu
  obtain ⟨k, hk, rfl⟩ := hu
  rw [Addr.add_lit, Nat.zero_add]
  exact hc j k hk

/-- One element is laid on: what was there stays to be read. -/
theorem grow_step {base sz n2 xn xc : Nat} {e : TypeId} {gv v' : Value} {xd : Option Addr} {XL M' : List Int} {w4 W W1 W2 : World} (hr : (⟨.slice xd xn xc, xn, XL⟩ : Rdr).At (Value.slice xd xn xc).ownBlock.toList sz W)
    (hl : gv.ownBlock = (Value.slice xd xn xc).ownBlock ∨ ∀ b, gv.ownBlock = some b → w4.heap.size ≤ b) (hx : ∀ b, (Value.slice xd xn xc).ownBlock = some b → b < w4.heap.size) (hO : Only (Value.slice xd xn xc).ownBlock.toList w4 W) (o1 : Only [] W W1) (h3 : App3 gv v' W1 W2) (h2 : W2.ownsRow base e sz v' n2 (ints (XL ++ M'))) :
    (⟨.slice xd xn xc, xn, XL⟩ : Rdr).At (Value.slice xd xn xc).ownBlock.toList sz W2 ∧ (v'.ownBlock = (Value.slice xd xn xc).ownBlock ∨ ∀ b, v'.ownBlock = some b → w4.heap.size ≤ b) ∧ Only (Value.slice xd xn xc).ownBlock.toList w4 W2 := by
  have hr1 := hr.only o1 (by simp)
  have hO1 : Only (Value.slice xd xn xc).ownBlock.toList w4 W1 := hO.trans (o1.mono (by simp))
  rcases h3 with ⟨e1, o2⟩ | ⟨o2, hb⟩
  · rcases hl with hl | hl
    · -- in the list's own block
      refine ⟨?_, Or.inl (e1.trans hl), hO1.trans (hl ▸ o2)⟩
      obtain ⟨k1, k2, a1, c1, e, k3⟩ := hr1.open
      cases e
      refine ⟨k1, k2, _, _, rfl, fun hp => ?_⟩
      obtain ⟨g, rfl, hs, hc⟩ := k3 hp
      refine ⟨g, rfl, hs, fun j k hk => ?_⟩
      have hv : v'.ownBlock = some g := e1.trans hl
      rcases h2.2 with ⟨hv0, _⟩ | ⟨g', cap', cur, hv0, _⟩
      · subst hv0; cases hv
      · subst hv0
        simp only [Value.ownBlock, Option.some.injEq] at hv
        subst hv
        have := h2.cells (g := g') rfl j (.int .i64 k) (by
          simp only [ints, List.map_append]
          rw [List.getElem?_append_left (by simp; exact (List.getElem?_eq_some_iff.1 hk).1), List.getElem?_map, show XL[j]? = some k from hk]
          rfl)
        rwa [Addr.add_lit, Nat.zero_add] at this
    · refine ⟨hr1.only o2 (fun b hb hm => ?_), Or.inr (fun b hb => hl b (e1 ▸ hb)), hO1.past o2 (fun b hb => Or.inr (hl b (by simpa using hb)))⟩
      have := hl b (by simpa using hm)
      have := hx b (by simpa using hb)
      omega
  · refine ⟨hr1.only o2 (by simp), Or.inr (fun b hb' => Nat.le_trans hO1.size (hb b hb')), hO1.trans (o2.mono (by simp))⟩

section
variable {base : Nat} {l : List Pc} {w w' : World} {e : TypeId} {sz : Nat} {St : List Nat} {rs : List Rdr}

/-- A list has been laid on: it, and what it has become, stay. -/
theorem Star.grown {p r : List Ent} {x : Ent} {gv : Value} {n2 : Nat} {L2 : List Int} (h : Star base l w) (i : Nat) (hi : l[i]? = some (memPc base e sz (p ++ x :: r) St rs)) (o : Only x.v.ownBlock.toList w w') (hr : (⟨x.v, x.n, x.L⟩ : Rdr).At x.v.ownBlock.toList sz w') (hg : w'.ownsRow base e sz gv n2 (ints L2)) (hn2 : n2 ≤ 5000)
    (hat : gv.ownBlock = x.v.ownBlock ∨ ∀ b, gv.ownBlock = some b → w.heap.size ≤ b) (hb : base ≤ w.heap.size) :
    Star base (l.set i (memPc base e sz (p ++ r) (x.v.ownBlock.toList ++ (gv.ownBlock.toList ++ St)) (⟨x.v, x.n, x.L⟩ :: ⟨gv, n2, L2⟩ :: rs))) w' ∧ Goes l (l.set i (memPc base e sz (p ++ r) (x.v.ownBlock.toList ++ (gv.ownBlock.toList ++ St)) (⟨x.v, x.n, x.L⟩ :: ⟨gv, n2, L2⟩ :: rs))) w w' := by
  have hm : MemOk base e sz (p ++ x :: r) St rs w := h.get i hi
  have hold : ∀ b, b ∈ (memPc base e sz (p ++ x :: r) St rs).bl → b < w.heap.size := fun b hb => (h.lies b (mem_bls.2 ⟨_, List.mem_of_getElem? hi, hb⟩)).2
  have hm1 := hm.perm (List.perm_middle (l₁ := p))
  have ha := List.pairwise_cons.1 hm1.apart
  have hxg : ∀ b, x.v.ownBlock = some b → b < w.heap.size := fun b hb => hold b (mem_memPc.2 (Or.inl ⟨x, by simp, hb⟩))
  have hm2 : MemOk base e sz (p ++ r) St rs w' := by
    refine ⟨fun y hy => ownsRow_only (hm1.own y (List.mem_cons_of_mem _ hy)) o fun b hb hm => ha.1 y hy b (by simpa using hm) hb, ha.2, fun y hy => hm1.off y (List.mem_cons_of_mem _ hy), fun q hq => (hm1.rd q hq).only o fun b hb hm => hm1.off x List.mem_cons_self b (by simpa using hm) hb⟩
  have hgb : ∀ b, gv.ownBlock = some b → (x.v.ownBlock = some b ∨ w.heap.size ≤ b) := fun b hb => by
    rcases hat with h1 | h1
    · exact Or.inl (h1 ▸ hb)
    · exact Or.inr (h1 b hb)
  have hm3 := hm2.stay (r := ⟨gv, n2, L2⟩) (rdr_own hg hn2) (fun b hb y hy hyb => by
    rcases hgb b (by simpa using hb) with h1 | h1
    · exact ha.1 y hy b h1 hyb
    · have := hold b (mem_memPc.2 (Or.inl ⟨y, by simp only [List.mem_append, List.mem_cons] at hy ⊢; rcases hy with hy | hy; exact Or.inl hy; exact Or.inr (Or.inr hy), hyb⟩)); omega)
  have hm4 := hm3.stay (r := ⟨x.v, x.n, x.L⟩) hr (fun b hb y hy hyb => ha.1 y hy b (by simpa using hb) hyb)
  refine h.upd (S := x.v.ownBlock.toList) i hi o (fun b hb => Or.inl (mem_memPc.2 (Or.inl ⟨x, by simp, by simpa using hb⟩))) hm4 (memPc_ok _ _ _ _ _ _) hb (fun b hb => ?_)
  rcases mem_memPc.1 hb with ⟨y, hy, hyb⟩ | h1
  · have h2 : b ∈ (memPc base e sz (p ++ x :: r) St rs).bl := mem_memPc.2 (Or.inl ⟨y, by simp only [List.mem_append, List.mem_cons] at hy ⊢; rcases hy with hy | hy; exact Or.inl hy; exact Or.inr (Or.inr hy), hyb⟩)
    exact ⟨Or.inl h2, Nat.lt_of_lt_of_le (hold b h2) o.size⟩
  · simp only [List.mem_append, Option.mem_toList] at h1
    rcases h1 with h1 | h1 | h1
    · have h2 : b ∈ (memPc base e sz (p ++ x :: r) St rs).bl := mem_memPc.2 (Or.inl ⟨x, by simp, h1⟩)
      exact ⟨Or.inl h2, Nat.lt_of_lt_of_le (hold b h2) o.size⟩
    · refine ⟨?_, (hg.lt b h1).2⟩
      rcases hgb b h1 with h3 | h3
      · exact Or.inl (mem_memPc.2 (Or.inl ⟨x, by simp, h3⟩))
      · exact Or.inr h3
    · have h2 : b ∈ (memPc base e sz (p ++ x :: r) St rs).bl := mem_memPc.2 (Or.inr h1)
      exact ⟨Or.inl h2, Nat.lt_of_lt_of_le (hold b h2) o.size⟩

end

/-- A list that was written is laid on: it, what it has become, and what that told are read alike. -/
theorem good_grow {ps : List (Value × Value)} {es rest : List Ent} {St St2 : List Nat} {rs rs2 : List Rdr} {s n2 : Nat} {x : Ent} {L2 : List Int} {gv q : Value} (h : Kn.Good ⟨ps, es, x :: rest, St, rs⟩ s) (hrs : ∀ r, r ∈ rs → r ∈ rs2) (hx : (⟨x.v, x.n, x.L⟩ : Rdr) ∈ rs2) (hg : (⟨gv, n2, L2⟩ : Rdr) ∈ rs2) (hq : (⟨q, n2, L2⟩ : Rdr) ∈ rs2) : Kn.Good ⟨ps ++ [(gv, q)], es, rest, St2, rs2⟩ s := by
  refine ⟨fun y hy => hrs _ (h.wait y hy), fun y hy => hrs _ (h.fresh y (List.mem_cons_of_mem _ hy)), fun p hp => ?_, ?_, fun y hy => h.mark y ?_, h.due, h.seen⟩
  · simp only [List.mem_append, List.mem_singleton] at hp
    rcases hp with hp | rfl
    · rcases h.pair p hp with ⟨n, L, h1, h2⟩ | ⟨y, h1, h2⟩
      · exact Or.inl ⟨n, L, hrs _ h1, hrs _ h2⟩
      · rcases List.mem_cons.1 h1 with h3 | h3
        · subst h3
          subst h2
          exact Or.inl ⟨_, _, hx, hrs _ (h.fresh y List.mem_cons_self)⟩
        · exact Or.inr ⟨y, h3, h2⟩
    · exact Or.inl ⟨_, _, hg, hq⟩
  · have := h.few
    simp at this ⊢
    omega
  · simp only [List.mem_append, List.mem_cons] at hy ⊢
    rcases hy with hy | hy
    · exact Or.inl hy
    · exact Or.inr (Or.inr hy)

/-- The pieces while lists are laid on. -/
def growL (base : Nat) (e ts : TypeId) (sz : Nat) (hp : Pc) (A : Hv) (es fs : List Ent) (ps : List (Value × Value)) (rest : List Ent) (St : List Nat) (rs : List Rdr) (RR : List Pc) : List Pc :=
  hp :: (kinY base ts A ps.length (ps.map Prod.fst) ps.length (ps.map Prod.snd) es.length (es.map Ent.v) es.length (es.map Ent.note) es.length (mks es) es.length (dus es) fs.length (fs.map Ent.v) fs.length (mks fs) (memPc base e sz (es ++ rest) St rs) ++ RR)

theorem growL_next (base : Nat) (e ts : TypeId) (sz : Nat) (hp : Pc) (A : Hv) (es fs : List Ent) (ps : List (Value × Value)) (gv q : Value) (rest : List Ent) (St : List Nat) (rs : List Rdr) (RR : List Pc) : growL base e ts sz hp A es fs (ps ++ [(gv, q)]) rest St rs RR =
  hp :: (kinY base ts A (ps.length + 1) (ps.map Prod.fst ++ [gv]) (ps.length + 1) (ps.map Prod.snd ++ [q]) es.length (es.map Ent.v) es.length (es.map Ent.note) es.length (mks es) es.length (dus es) fs.length (fs.map Ent.v) fs.length (mks fs) (memPc base e sz (es ++ rest) St rs) ++ RR) := by
  simp [growL, kinY]

end Go.Proofs.YtpknnamficegbaaGreatDoor

namespace Go.Proofs.YtpknnamficegbaaGreatDoor
open Go.RowKit

/-- Behind the call: nothing is left to be laid on. -/
def GrowIOut (base kb : Nat) (turn deep : Int) (a b : Hv) (RR l : List Pc) (w : World) (e : Ending) (w' : World) : Prop :=
  e = .returned (.tuple #[]) ∧ ∃ A k, Star base (hdrPc kb turn deep A b :: (kin base 3 29 1 A k ++ RR)) w' ∧ Goes l (hdrPc kb turn deep A b :: (kin base 3 29 1 A k ++ RR)) w w' ∧ k.Good A.s ∧ A.s = a.s ∧ k.fs = []

set_option maxRecDepth 100000 in
set_option maxHeartbeats 8000000 in
theorem bkgrow_Ints {base kb : Nat} {turn deep : Int} {a b : Hv} {k : Kn} {RR : List Pc} {w : World} (H : Star base (hdrPc kb turn deep a b :: (kin base 3 29 1 a k ++ RR)) w) (gk : k.Good a.s) (bs : base ≤ w.heap.size) (tn : 0 ≤ turn ∧ turn ≤ 10000) :
    Calls Tryz.prog 143 #[.pointer (some ⟨kb, 0, none⟩)] w (GrowIOut base kb turn deep a b RR (hdrPc kb turn deep a b :: (kin base 3 29 1 a k ++ RR)) w) := by
  obtain ⟨L0, hL0⟩ : ∃ q, hdrPc kb turn deep a b :: (kin base 3 29 1 a k ++ RR) = q := ⟨_, rfl⟩
  have HEND := Lib.hid (show ∀ (W : World) (A : Hv) (k2 : Kn), Star base (hdrPc kb turn deep A b :: (kin base 3 29 1 A k2 ++ RR)) W → Goes L0 (hdrPc kb turn deep A b :: (kin base 3 29 1 A k2 ++ RR)) w W → k2.Good A.s → A.s = a.s → k2.fs = [] → GrowIOut base kb turn deep a b RR L0 w (.returned (.tuple #[])) W from fun W A k2 h1 h2 h3 h4 h5 => ⟨rfl, A, k2, h1, h2, h3, h4, h5⟩)
  have hg0 : Goes L0 (hdrPc kb turn deep a b :: (kin base 3 29 1 a k ++ RR)) w w := hL0 ▸ Goes.refl _ w
  rw [hL0]
  obtain ⟨ps, es, fs, St, rs⟩ := k
  rw [kin_eq] at H hg0
  obtain ⟨jo, jt, jw, jn, jf, jm, jd, jr, sn⟩ := a
  obtain ⟨m, hml⟩ : ∃ q, fs.length = q := ⟨_, rfl⟩
  have hfew := gk.few
  simp only [hml] at hfew
  have hsn : sn ≤ 1000 := gk.seen
  have hm1 : m ≤ 2000 := by omega
  have HML := Lib.hid hml
  have HB := Lib.hid bs
  have HGK := Lib.hid gk
  obtain ⟨i0, hi0, hz0, hz1, hz2⟩ := info_parts info_intsT
  obtain ⟨i1, hi1, hy0, hy1, hy2⟩ := info_parts info_int
  have HS0 : Hid (Star base (growL base 3 29 1 (hdrPc kb turn deep ⟨jo, jt, jw, jn, jf, jm, jd, jr, sn⟩ b) ⟨jo, jt, jw, jn, jf, jm, jd, jr, sn⟩ es fs ps fs St rs RR) w ∧ Goes L0 (growL base 3 29 1 (hdrPc kb turn deep ⟨jo, jt, jw, jn, jf, jm, jd, jr, sn⟩ b) ⟨jo, jt, jw, jn, jf, jm, jd, jr, sn⟩ es fs ps fs St rs RR) w w) := Lib.hid ⟨H, hg0⟩
  clear H hg0 gk hml bs hL0 hfew
  go_enter Tryz.func143, Tryz.ntmps143
  go_wp2_with fail
  go_loopg [2, 3, 4, 5] m (fun gk s2 s3 s4 s5 W => ∃ (i : Nat) (A : Hv) (ps : List (Value × Value)) (St : List Nat) (rs : List Rdr), i + gk = m ∧ s2 = .int .i64 i ∧ Kn.Good ⟨ps, es, fs.drop i, St, rs⟩ A.s ∧ A.s = sn ∧ Star base (growL base 3 29 1 (hdrPc kb turn deep A b) A es fs ps (fs.drop i) St rs RR) W ∧ Goes L0 (growL base 3 29 1 (hdrPc kb turn deep A b) A es fs ps (fs.drop i) St rs RR) w W)
  case atStart => exact ⟨0, ⟨jo, jt, jw, jn, jf, jm, jd, jr, sn⟩, ps, St, rs, by omega, rfl, HGK.out, rfl, HS0.out⟩
  case round =>
    clear HS0 HGK St rs ps
    obtain ⟨i, A, ps, St, rs, hi, rfl, hgood, hsn', hS, hG⟩ := hrel
    obtain ⟨jo, jt, jw, jn, jf, jm, jd, jr, sn2⟩ := A
    simp only at hsn'
    subst hsn'
    have s0 := hS
    have g0 := hG
    simp only [growL, HML.out] at s0 g0
    have hh0 : RowV wr kb 103 (hdrF turn deep ⟨jo, jt, jw, jn, jf, jm, jd, jr, sn2⟩ b) 41 := s0.get 0 rfl
    have rf0 : wr.ownsRow base 29 1 jf m (fs.map Ent.v) := s0.get 7 rfl
    have rr0 : wr.ownsRow base 3 1 jr m (mks fs) := s0.get 8 rfl
    by_cases hlt : i < m
    · obtain ⟨x, rest, hdr⟩ : ∃ x rest, fs.drop i = x :: rest := by
        have := HML.out
        exact ⟨_, _, List.drop_eq_getElem_cons (by omega)⟩
      have hx : fs[i]? = some x := by
        have h1 : (fs.drop i)[0]? = some x := by rw [hdr]; rfl
        rwa [List.getElem?_drop] at h1
      have hrest : fs.drop (i + 1) = rest := by
        have h1 : (fs.drop i).drop 1 = rest := by rw [hdr]; rfl
        rwa [List.drop_drop] at h1
      rw [hdr] at hgood s0 g0
      have HREST := Lib.hid hrest
      have HI := Lib.hid hi
      have HGD := Lib.hid hgood
      have hfew := hgood.few
      simp only [List.length_cons] at hfew
      have hxm := hgood.mark x (by simp)
      obtain ⟨xv, xn, XL, q, xmark, xdue⟩ := x
      simp only at hxm
      obtain ⟨hxm1, hxm2, hxn⟩ := hxm
      obtain ⟨c, hc⟩ : ∃ q, es.length = q := ⟨_, rfl⟩
      obtain ⟨pc, hpc⟩ : ∃ q, ps.length = q := ⟨_, rfl⟩
      rw [hc, hpc] at hfew s0 g0
      have HC := Lib.hid hc
      have HPC := Lib.hid hpc
      have hcb : c ≤ 1000 ∧ pc ≤ 2000 := by have : sn2 ≤ 1000 := hgood.seen; omega
      obtain ⟨hcb, hpb⟩ := hcb
      have hmem : MemOk base 3 1 (es ++ ⟨xv, xn, XL, q, xmark, xdue⟩ :: rest) St rs wr := s0.get 9 rfl
      have hxo : wr.ownsRow base 3 1 xv xn (ints XL) := hmem.own ⟨xv, xn, XL, q, xmark, xdue⟩ (by simp)
      obtain ⟨xd, xc, rfl⟩ := own_slice_any hxo
      obtain ⟨gf, cf, rfl, kf⟩ := own_at rf0 (by omega)
      obtain ⟨gr, cr, rfl, kr⟩ := own_at rr0 (by omega)
      have lf := kf i (.slice xd xn xc) (by simp [hx])
      have lr := kr i (.int .i64 xmark) (by simp [mks, hx])
      have c8 : wr.cell? ⟨kb, 8, none⟩ = some (.slice (some ⟨gf, 0, none⟩) m cf) := hh0.cell (by omega)
      have c11 : wr.cell? ⟨kb, 11, none⟩ = some (.slice (some ⟨gr, 0, none⟩) m cr) := hh0.cell (by omega)
      have HXO := Lib.hid hxo
      have HS0 := Lib.hid (And.intro s0 g0)
      have hii : (i : Int) < m := by omega
      have hi0' : (0 : Int) ≤ i := by omega
      clear hS hG hgood hmem hxo kf kr hx hdr hrest hc hpc s0 g0 hi hh0 rf0 rr0
      go_upto_block 1 with fail
      go_wp2_with fail
      clear c8 c11 lf lr
      go_loopg [5, 4] 30 (fun gj s5 s4 W => ∃ (j : Nat) (M : List Int), j + gj = 30 ∧ s5 = .int .i64 j ∧ W.ownsRow base 3 1 s4 (xn + j) (ints (XL ++ M)) ∧ (⟨.slice xd xn xc, xn, XL⟩ : Rdr).At (Value.slice xd xn xc).ownBlock.toList 1 W ∧ (s4.ownBlock = (Value.slice xd xn xc).ownBlock ∨ ∀ b, s4.ownBlock = some b → wr.heap.size ≤ b) ∧ Only (Value.slice xd xn xc).ownBlock.toList wr W)
      case atStart => exact ⟨0, [], by omega, rfl, by rw [List.append_nil]; exact HXO.out, rdr_own HXO.out (by omega), Or.inl rfl, Only.refl _ _⟩
      case round =>
        obtain ⟨j, M, hj, rfl, hrow, hrd, hat, hO⟩ := hrel
        obtain ⟨gd, gc, rfl⟩ := own_slice_any hrow
        by_cases hj30 : j < 30
        · have HJ := Lib.hid hj
          have hb9 := Nat.le_trans HB.out (Nat.le_trans HS0.out.2.only.size hO.size)
          have HRW := Lib.hid (And.intro hrow (And.intro hrd (And.intro hat hO)))
          have hj5 : (0 : Int) ≤ 5 * (j : Int) := by omega
          have hjz : (j : Int) < 30 := by omega
          clear hj hrow hrd hat hO
          go_wp2_with (at_builtin; refine wpList_append3 (by rfl) (.tmp 33) (.tmp 39) 29 (by rfl) base 3 _ _ 1 8 Tryz.underlying29 hi1 hy0 hy1 hy2 rfl (by decide) _ (xn + j) _ rfl (ownsRow_only HRW.out.1 (Only.alloc [] _ (.cells #[.int .i64 (xmark + 6 + 5 * (j : Int))] 3)) (by simp)) (some ⟨_, 0, none⟩) 1 1 [.int .i64 (xmark + 6 + 5 * (j : Int))] rfl rfl (fun e => by cases e) (fun ad e => by cases e; exact cell_one_new _ _ _) (fun u hu => by simp at hu; subst hu; rfl) (by unfold maxLen; omega) (by omega) (by simp; omega) ?_)
          intro v9 w9 hown9 h9
          obtain ⟨hrow, hrd, hat, hO⟩ := HRW.out
          have hrow9 : w9.ownsRow base 3 1 v9 (xn + (j + 1)) (ints (XL ++ (M ++ [xmark + 6 + 5 * (j : Int)]))) := by
            rw [← Nat.add_assoc]
            simpa [ints, List.append_assoc] using hown9
          have hstep := grow_step hrd hat (fun b hb => (HXO.out.lt b hb).2) hO (Only.alloc [] _ (.cells #[.int .i64 (xmark + 6 + 5 * (j : Int))] 3)) h9 hrow9
          have HF := Lib.hid (And.intro hrow9 hstep)
          clear hown9 h9 hrow hrd hat hO hrow9 hstep
          go_wp2_with fail
          go_roundg (30 - (j + 1))
          case measure => have := HJ.out; omega
          case rel => exact ⟨j + 1, _, by have := HJ.out; omega, by go_num, HF.out⟩
        · have hj' : j = 30 := by omega
          subst hj'
          have hbw := Nat.le_trans HB.out HS0.out.2.only.size
          have s1 := HS0.out.1.grown (x := (⟨.slice xd xn xc, xn, XL, q, xmark, xdue⟩ : Ent)) 9 rfl hO hrd hrow (by omega) hat hbw
          obtain ⟨GM, hGM⟩ : ∃ q, XL ++ M = q := ⟨_, rfl⟩
          rw [hGM] at s1
          have HS2 : Hid (Star base (hdrPc kb turn deep ⟨jo, jt, jw, jn, .slice (some ⟨gf, 0, none⟩) m cf, jm, jd, .slice (some ⟨gr, 0, none⟩) m cr, sn2⟩ b :: (kinY base 29 ⟨jo, jt, jw, jn, .slice (some ⟨gf, 0, none⟩) m cf, jm, jd, .slice (some ⟨gr, 0, none⟩) m cr, sn2⟩ (pc) (ps.map Prod.fst) (pc) (ps.map Prod.snd) (c) (es.map Ent.v) (c) (es.map Ent.note) (c) (mks es) (c) (dus es) (m) (fs.map Ent.v) (m) (mks fs) (memPc base 3 1 (es ++ rest) ((Value.slice xd xn xc).ownBlock.toList ++ ((Value.slice gd (xn + 30) gc).ownBlock.toList ++ St)) (⟨.slice xd xn xc, xn, XL⟩ :: ⟨.slice gd (xn + 30) gc, xn + 30, GM⟩ :: rs)) ++ RR)) _ ∧ Goes L0 (hdrPc kb turn deep ⟨jo, jt, jw, jn, .slice (some ⟨gf, 0, none⟩) m cf, jm, jd, .slice (some ⟨gr, 0, none⟩) m cr, sn2⟩ b :: (kinY base 29 ⟨jo, jt, jw, jn, .slice (some ⟨gf, 0, none⟩) m cf, jm, jd, .slice (some ⟨gr, 0, none⟩) m cr, sn2⟩ (pc) (ps.map Prod.fst) (pc) (ps.map Prod.snd) (c) (es.map Ent.v) (c) (es.map Ent.note) (c) (mks es) (c) (dus es) (m) (fs.map Ent.v) (m) (mks fs) (memPc base 3 1 (es ++ rest) ((Value.slice xd xn xc).ownBlock.toList ++ ((Value.slice gd (xn + 30) gc).ownBlock.toList ++ St)) (⟨.slice xd xn xc, xn, XL⟩ :: ⟨.slice gd (xn + 30) gc, xn + 30, GM⟩ :: rs)) ++ RR)) w _) := Lib.hid (And.intro s1.1 (HS0.out.2.trans s1.2))
          clear s1 hO hrd hrow hat HS0 HXO hj30 hj hbw
          go_upto_region 9 with fail
          refine wp_star HS2.out ?_
          clear HS2
          intro w2 s2 g2
          -- o
          have r2 : w2.ownsRow base 29 1 jo (pc) (ps.map Prod.fst) := s2.get 1 rfl
          obtain ⟨ox2, oy2, rfl⟩ := own_slice_any r2
          have hh2 : RowV w2 kb 103 (hdrF turn deep ⟨.slice ox2 (pc) oy2, jt, jw, jn, .slice (some ⟨gf, 0, none⟩) m cf, jm, jd, .slice (some ⟨gr, 0, none⟩) m cr, sn2⟩ b) 41 := s2.get 0 rfl
          have hb2 : base ≤ w2.heap.size := Nat.le_trans HB.out g2.only.size
          have ca2 : w2.cell? ⟨kb, 4, none⟩ = some (.slice ox2 (pc) oy2) := hh2.cell (by omega)
          have R2 := Lib.hid (ownsRow_only r2 (Only.alloc [] w2 (.cells #[.slice gd (xn + 30) gc] 29)) (by simp))
          have HS2 := Lib.hid (And.intro s2 g2)
          clear s2 g2 r2 hh2
          go_upto_region 10 with (at_builtin; refine wpList_append3 (by rfl) (.tmp 45) (.tmp 47) 28 (by rfl) base 29 _ _ 1 24 Tryz.underlying28 hi0 hz0 hz1 hz2 rfl (by decide) _ (pc) _ rfl R2.out (some ⟨w2.heap.size, 0, none⟩) 1 1 [.slice gd (xn + 30) gc] rfl rfl (fun e => by cases e) (fun ad e => by cases e; exact cell_one_new _ _ _) (fun u hu => by simp at hu; subst hu; rfl) (by unfold maxLen; omega) (by omega) (by simp; omega) ?_)
          intro v3 w3 hown3 h3
          obtain ⟨o3, at3⟩ := app3 h3
          have s3 := HS2.out.1.row 1 rfl (Only.alloc [] w2 (.cells #[.slice gd (xn + 30) gc] 29)) hown3 o3 at3 hb2
          have hh3 : RowV w3 kb 103 (hdrF turn deep ⟨.slice ox2 (pc) oy2, jt, jw, jn, .slice (some ⟨gf, 0, none⟩) m cf, jm, jd, .slice (some ⟨gr, 0, none⟩) m cr, sn2⟩ b) 41 := s3.1.get 0 rfl
          have cb2 : w3.cell? ⟨kb, 4, none⟩ = some (.slice ox2 (pc) oy2) := hh3.cell (by omega)
          have fb2 : w3.frozen? ⟨kb, 4, none⟩ = false := hh3.free _
          obtain ⟨ox4, oy4, rfl⟩ := own_slice_any hown3
          have s4 := s3.1.hdr 0 rfl (Only.setCell w3 (a := ⟨kb, 4, none⟩) (by simp) (.slice ox4 (pc + 1) oy4)) (hdrI_o hh3 (.slice ox4 (pc + 1) oy4)) (Nat.le_trans hb2 s3.2.only.size)
          have HS4 : Hid (Star base (hdrPc kb turn deep ⟨.slice ox4 (pc + 1) oy4, jt, jw, jn, .slice (some ⟨gf, 0, none⟩) m cf, jm, jd, .slice (some ⟨gr, 0, none⟩) m cr, sn2⟩ b :: (kinY base 29 ⟨.slice ox4 (pc + 1) oy4, jt, jw, jn, .slice (some ⟨gf, 0, none⟩) m cf, jm, jd, .slice (some ⟨gr, 0, none⟩) m cr, sn2⟩ (pc + 1) (ps.map Prod.fst ++ [.slice gd (xn + 30) gc]) (pc) (ps.map Prod.snd) (c) (es.map Ent.v) (c) (es.map Ent.note) (c) (mks es) (c) (dus es) (m) (fs.map Ent.v) (m) (mks fs) (memPc base 3 1 (es ++ rest) ((Value.slice xd xn xc).ownBlock.toList ++ ((Value.slice gd (xn + 30) gc).ownBlock.toList ++ St)) (⟨.slice xd xn xc, xn, XL⟩ :: ⟨.slice gd (xn + 30) gc, xn + 30, GM⟩ :: rs)) ++ RR)) _ ∧ Goes L0 _ w _) := Lib.hid (And.intro s4.1 ((HS2.out.2.trans s3.2).trans s4.2))
          clear hown3 h3 o3 at3 s3 hh3 s4 hb2 ca2
          go_upto_region 10 with fail
          clear cb2 fb2 R2 HS2
          refine wp_star HS4.out ?_
          clear HS4
          intro w4 s4 g4
          -- t (a copy)
          have r4 : w4.ownsRow base 29 1 jt (pc) (ps.map Prod.snd) := s4.get 2 rfl
          obtain ⟨tx4, ty4, rfl⟩ := own_slice_any r4
          have hh4 : RowV w4 kb 103 (hdrF turn deep ⟨.slice ox4 (pc + 1) oy4, .slice tx4 (pc) ty4, jw, jn, .slice (some ⟨gf, 0, none⟩) m cf, jm, jd, .slice (some ⟨gr, 0, none⟩) m cr, sn2⟩ b) 41 := s4.get 0 rfl
          have hb4 : base ≤ w4.heap.size := Nat.le_trans HB.out g4.only.size
          have ca4 : w4.cell? ⟨kb, 5, none⟩ = some (.slice tx4 (pc) ty4) := hh4.cell (by omega)
          have HC4 := Lib.hid (fun W (o : Only [] w4 W) => keep_cell o ca4)
          have hv4 := ((s4.get 9 rfl : MemOk base 3 1 (es ++ rest) ((Value.slice xd xn xc).ownBlock.toList ++ ((Value.slice gd (xn + 30) gc).ownBlock.toList ++ St)) (⟨.slice xd xn xc, xn, XL⟩ :: ⟨.slice gd (xn + 30) gc, xn + 30, GM⟩ :: rs) w4).rd ⟨.slice gd (xn + 30) gc, xn + 30, GM⟩ (by simp))
          have HSR := Lib.hid (fun W (o : Only [] w4 W) => rdr_src (hv4.only o (by simp)) (by omega))
          have HLN := Lib.hid (rdr_src hv4 (by omega)).2.2
          have HR4 := Lib.hid (fun W (o : Only [] w4 W) => ownsRow_only r4 o (by simp))
          have HS4 := Lib.hid (And.intro s4 g4)
          have HO1 := Lib.hid (fun u hu => show Value.oneCell' u = true from by simp [ints] at hu; obtain ⟨x, _, rfl⟩ := hu; rfl : ∀ u ∈ ints GM, u.oneCell' = true)
          have hkl := hh4.lt
          clear s4 g4 r4 hh4 hv4
          go_upto_region 10 with fail
          go_region_law (first | (refine step_append3 (by rfl) (.tmp 56) (.tmp 57) 29 (by rfl) w4.heap.size 3 _ _ 1 8 Tryz.underlying29 hi1 hy0 hy1 hy2 rfl (by decide) (.slice (some ⟨w4.heap.size, 0, none⟩) 0 0) 0 [] (by rfl) (World.ownsRow_lit w4.drew #[] 0 (Nat.le_refl _) (by decide) rfl) gd (xn + 30) gc (ints GM) (by rfl) HLN.out (HSR.out w4 (Only.refl _ _)).1 (HSR.out _ ((Only.drew _ _).trans (Only.alloc _ _ _))).2.1 HO1.out (by unfold maxLen; omega) (by omega) (by simp) ?_; intro vt wt hownt ht; rw [Nat.zero_add, List.nil_append] at hownt; obtain ⟨td, tc, rfl⟩ := own_slice_any hownt; have ot := ((Only.drew [] w4).trans (Only.alloc _ _ _)).past (app3 ht).1 (by simp [Value.ownBlock]); have hkt := Nat.lt_of_lt_of_le hkl ot.size; have cat := HC4.out _ ot) | (refine step_append3 (by rfl) (.tmp 55) (.tmp 59) 28 (by rfl) base 29 _ _ 1 24 Tryz.underlying28 hi0 hz0 hz1 hz2 rfl (by decide) (.slice tx4 (pc) ty4) (pc) (ps.map Prod.snd) (by rfl) (HR4.out _ (ot.trans (Only.alloc _ _ _))) (some ⟨wt.heap.size, 0, none⟩) 1 1 [.slice td (xn + 30) tc] (by rfl) rfl (fun e => by cases e) (fun ad e => by cases e; exact cell_one_new _ _ _) (fun u hu => by simp at hu; subst hu; rfl) (by unfold maxLen; omega) (by omega) (by have := ot.size; simp; omega) ?_; intro v5 w5 hown5 h5; obtain ⟨tx6, ty6, rfl⟩ := own_slice_any hown5; have st := HS4.out.1.note 9 rfl ot hownt (by omega) hb4; have hbt := Nat.le_trans hb4 ot.size; have s5 := st.1.row 2 rfl (Only.alloc [] wt _) hown5 (app3 h5).1 (app3 h5).2 hbt; have hh5 : RowV w5 kb 103 (hdrF turn deep ⟨.slice ox4 (pc + 1) oy4, .slice tx4 (pc) ty4, jw, jn, .slice (some ⟨gf, 0, none⟩) m cf, jm, jd, .slice (some ⟨gr, 0, none⟩) m cr, sn2⟩ b) 41 := s5.1.get 0 rfl; have cb4 : w5.cell? ⟨kb, 5, none⟩ = some (.slice tx4 (pc) ty4) := hh5.cell (by omega); have fb4 : w5.frozen? ⟨kb, 5, none⟩ = false := hh5.free _; have s6 := s5.1.hdr 0 rfl (Only.setCell w5 (a := ⟨kb, 5, none⟩) (by simp) (.slice tx6 (pc + 1) ty6)) (hdrI_t hh5 (.slice tx6 (pc + 1) ty6)) (Nat.le_trans hbt s5.2.only.size); have HS6 := Lib.hid (And.intro s6.1 (((HS4.out.2.trans st.2).trans s5.2).trans s6.2)); clear hownt ht ot hkt hown5 h5 st s5 hh5 s6 hbt))
          all_goals
            have HQ : Hid (Star base (hdrPc kb turn deep ⟨.slice ox4 (pc + 1) oy4, .slice tx6 (pc + 1) ty6, jw, jn, .slice (some ⟨gf, 0, none⟩) m cf, jm, jd, .slice (some ⟨gr, 0, none⟩) m cr, sn2⟩ b :: (kinY base 29 ⟨.slice ox4 (pc + 1) oy4, .slice tx6 (pc + 1) ty6, jw, jn, .slice (some ⟨gf, 0, none⟩) m cf, jm, jd, .slice (some ⟨gr, 0, none⟩) m cr, sn2⟩ (pc + 1) (ps.map Prod.fst ++ [.slice gd (xn + 30) gc]) (pc + 1) (ps.map Prod.snd ++ [.slice td (xn + 30) tc]) (c) (es.map Ent.v) (c) (es.map Ent.note) (c) (mks es) (c) (dus es) (m) (fs.map Ent.v) (m) (mks fs) (memPc base 3 1 (es ++ rest) ((Value.slice td (xn + 30) tc).ownBlock.toList ++ ((Value.slice xd xn xc).ownBlock.toList ++ ((Value.slice gd (xn + 30) gc).ownBlock.toList ++ St))) (⟨.slice td (xn + 30) tc, xn + 30, GM⟩ :: ⟨.slice xd xn xc, xn, XL⟩ :: ⟨.slice gd (xn + 30) gc, xn + 30, GM⟩ :: rs)) ++ RR)) _ ∧ Goes L0 (hdrPc kb turn deep ⟨.slice ox4 (pc + 1) oy4, .slice tx6 (pc + 1) ty6, jw, jn, .slice (some ⟨gf, 0, none⟩) m cf, jm, jd, .slice (some ⟨gr, 0, none⟩) m cr, sn2⟩ b :: (kinY base 29 ⟨.slice ox4 (pc + 1) oy4, .slice tx6 (pc + 1) ty6, jw, jn, .slice (some ⟨gf, 0, none⟩) m cf, jm, jd, .slice (some ⟨gr, 0, none⟩) m cr, sn2⟩ (pc + 1) (ps.map Prod.fst ++ [.slice gd (xn + 30) gc]) (pc + 1) (ps.map Prod.snd ++ [.slice td (xn + 30) tc]) (c) (es.map Ent.v) (c) (es.map Ent.note) (c) (mks es) (c) (dus es) (m) (fs.map Ent.v) (m) (mks fs) (memPc base 3 1 (es ++ rest) ((Value.slice td (xn + 30) tc).ownBlock.toList ++ ((Value.slice xd xn xc).ownBlock.toList ++ ((Value.slice gd (xn + 30) gc).ownBlock.toList ++ St))) (⟨.slice td (xn + 30) tc, xn + 30, GM⟩ :: ⟨.slice xd xn xc, xn, XL⟩ :: ⟨.slice gd (xn + 30) gc, xn + 30, GM⟩ :: rs)) ++ RR)) w _) := Lib.hid HS6.out
            clear HS6
            go_upto_region 2 with fail
            refine wp_star HQ.out ?_
            intro w6 s6 g6
            have hke := growL_next base 3 29 1 (hdrPc kb turn deep ⟨.slice ox4 (pc + 1) oy4, .slice tx6 (pc + 1) ty6, jw, jn, .slice (some ⟨gf, 0, none⟩) m cf, jm, jd, .slice (some ⟨gr, 0, none⟩) m cr, sn2⟩ b) ⟨.slice ox4 (pc + 1) oy4, .slice tx6 (pc + 1) ty6, jw, jn, .slice (some ⟨gf, 0, none⟩) m cf, jm, jd, .slice (some ⟨gr, 0, none⟩) m cr, sn2⟩ es fs ps (.slice gd (xn + 30) gc) (.slice td (xn + 30) tc) rest ((Value.slice td (xn + 30) tc).ownBlock.toList ++ ((Value.slice xd xn xc).ownBlock.toList ++ ((Value.slice gd (xn + 30) gc).ownBlock.toList ++ St))) (⟨.slice td (xn + 30) tc, xn + 30, GM⟩ :: ⟨.slice xd xn xc, xn, XL⟩ :: ⟨.slice gd (xn + 30) gc, xn + 30, GM⟩ :: rs) RR
            rw [HML.out, HC.out, HPC.out] at hke
            have HF := Lib.hid (And.intro (s6.congr hke.symm) (g6.to hke.symm))
            rw [← HREST.out] at HF
            have hgd : Kn.Good ⟨ps ++ [(.slice gd (xn + 30) gc, .slice td (xn + 30) tc)], es, fs.drop (i + 1), ((Value.slice td (xn + 30) tc).ownBlock.toList ++ ((Value.slice xd xn xc).ownBlock.toList ++ ((Value.slice gd (xn + 30) gc).ownBlock.toList ++ St))), ⟨.slice td (xn + 30) tc, xn + 30, GM⟩ :: ⟨.slice xd xn xc, xn, XL⟩ :: ⟨.slice gd (xn + 30) gc, xn + 30, GM⟩ :: rs⟩ sn2 := by rw [HREST.out]; exact good_grow (x := (⟨.slice xd xn xc, xn, XL, q, xmark, xdue⟩ : Ent)) HGD.out (fun r hr => by simp [hr]) (by simp) (n2 := xn + 30) (L2 := GM) (by simp) (by simp)
            have HGD2 := Lib.hid hgd
            clear hke hgd s6 g6
            go_wp2_with fail
            go_roundg (m - (i + 1))
            case measure => have := HI.out; omega
            case rel => exact ⟨i + 1, ⟨.slice ox4 (pc + 1) oy4, .slice tx6 (pc + 1) ty6, jw, jn, .slice (some ⟨gf, 0, none⟩) m cf, jm, jd, .slice (some ⟨gr, 0, none⟩) m cr, sn2⟩, _, _, _, by have := HI.out; omega, by go_num, HGD2.out, rfl, HF.out⟩
    · have him : i = m := by omega
      subst him
      have hdrop : fs.drop i = [] := List.drop_eq_nil_of_le (by have := HML.out; omega)
      rw [hdrop] at hgood s0 g0
      obtain ⟨fd, fcp, rfl⟩ := own_slice_any rf0
      obtain ⟨rd, rcp, rfl⟩ := own_slice_any rr0
      have c8 : wr.cell? ⟨kb, 8, none⟩ = some (.slice fd i fcp) := hh0.cell (by omega)
      have c11 : wr.cell? ⟨kb, 11, none⟩ = some (.slice rd i rcp) := hh0.cell (by omega)
      have f8 : wr.frozen? ⟨kb, 8, none⟩ = false := hh0.free _
      have f11 : wr.frozen? ⟨kb, 11, none⟩ = false := hh0.free _
      have hbw := Nat.le_trans HB.out g0.only.size
      have t1 := s0.hdr 0 rfl (Only.setCell wr (a := ⟨kb, 8, none⟩) (by simp) (.slice none 0 0)) (hdrI_f hh0 (.slice none 0 0)) hbw
      have t2 := t1.1.hdr 0 rfl (Only.setCell _ (a := ⟨kb, 11, none⟩) (by simp) (.slice none 0 0)) (hdrI_r (t1.1.get 0 rfl) (.slice none 0 0)) (Nat.le_trans hbw t1.2.only.size)
      have hb2 := Nat.le_trans (Nat.le_trans hbw t1.2.only.size) t2.2.only.size
      have t3 := t2.1.say (p' := rowPc base 29 1 (.slice none 0 0) 0 []) 7 rfl (World.ownsRow_nil _ _ _ _) (rowPc_ok _ _ _ _ _ _) hb2 (by simp [rowPc, Value.ownBlock])
      have t4 := t3.1.say (p' := rowPc base 3 1 (.slice none 0 0) 0 []) 8 rfl (World.ownsRow_nil _ _ _ _) (rowPc_ok _ _ _ _ _ _) hb2 (by simp [rowPc, Value.ownBlock])
      have hst := (((g0.trans t1.2).trans t2.2).trans t3.2).trans t4.2
      have HF := Lib.hid (HEND.out _ ⟨jo, jt, jw, jn, .slice none 0 0, jm, jd, .slice none 0 0, sn2⟩ ⟨ps, es, [], St, rs⟩ t4.1 hst hgood rfl rfl)
      clear t1 t2 t3 t4 hst hb2 hbw s0 g0 hh0 rf0 rr0 hS hG hgood hdrop hlt hi
      go_wp2_with fail
      go_end0
      exact HF.out

end Go.Proofs.YtpknnamficegbaaGreatDoor

namespace Go.Proofs.YtpknnamficegbaaGreatDoor
open Go.RowKit

/-- Behind the call: nothing is left to be laid on. -/
def GrowSOut (base kb : Nat) (turn deep : Int) (a b : Hv) (RR l : List Pc) (w : World) (e : Ending) (w' : World) : Prop :=
  e = .returned (.tuple #[]) ∧ ∃ A k, Star base (hdrPc kb turn deep a A :: (kin base 64 58 7 A k ++ RR)) w' ∧ Goes l (hdrPc kb turn deep a A :: (kin base 64 58 7 A k ++ RR)) w w' ∧ k.Good A.s ∧ A.s = b.s ∧ k.fs = []

set_option maxRecDepth 100000 in
set_option maxHeartbeats 8000000 in
theorem bkgrow_Slots {base kb : Nat} {turn deep : Int} {a b : Hv} {k : Kn} {RR : List Pc} {w : World} (H : Star base (hdrPc kb turn deep a b :: (kin base 64 58 7 b k ++ RR)) w) (gk : k.Good b.s) (bs : base ≤ w.heap.size) (tn : 0 ≤ turn ∧ turn ≤ 10000) :
    Calls Tryz.prog 146 #[.pointer (some ⟨kb, 0, none⟩)] w (GrowSOut base kb turn deep a b RR (hdrPc kb turn deep a b :: (kin base 64 58 7 b k ++ RR)) w) := by
  obtain ⟨L0, hL0⟩ : ∃ q, hdrPc kb turn deep a b :: (kin base 64 58 7 b k ++ RR) = q := ⟨_, rfl⟩
  have HEND := Lib.hid (show ∀ (W : World) (A : Hv) (k2 : Kn), Star base (hdrPc kb turn deep a A :: (kin base 64 58 7 A k2 ++ RR)) W → Goes L0 (hdrPc kb turn deep a A :: (kin base 64 58 7 A k2 ++ RR)) w W → k2.Good A.s → A.s = b.s → k2.fs = [] → GrowSOut base kb turn deep a b RR L0 w (.returned (.tuple #[])) W from fun W A k2 h1 h2 h3 h4 h5 => ⟨rfl, A, k2, h1, h2, h3, h4, h5⟩)
  have hg0 : Goes L0 (hdrPc kb turn deep a b :: (kin base 64 58 7 b k ++ RR)) w w := hL0 ▸ Goes.refl _ w
  rw [hL0]
  obtain ⟨ps, es, fs, St, rs⟩ := k
  rw [kin_eq] at H hg0
  obtain ⟨jo, jt, jw, jn, jf, jm, jd, jr, sn⟩ := b
  obtain ⟨m, hml⟩ : ∃ q, fs.length = q := ⟨_, rfl⟩
  have hfew := gk.few
  simp only [hml] at hfew
  have hsn : sn ≤ 1000 := gk.seen
  have hm1 : m ≤ 2000 := by omega
  have HML := Lib.hid hml
  have HB := Lib.hid bs
  have HGK := Lib.hid gk
  obtain ⟨i0, hi0, hz0, hz1, hz2⟩ := info_parts info_slotsT
  obtain ⟨i1, hi1, hy0, hy1, hy2⟩ := info_parts info_Slot
  have HS0 : Hid (Star base (growL base 64 58 7 (hdrPc kb turn deep a ⟨jo, jt, jw, jn, jf, jm, jd, jr, sn⟩) ⟨jo, jt, jw, jn, jf, jm, jd, jr, sn⟩ es fs ps fs St rs RR) w ∧ Goes L0 (growL base 64 58 7 (hdrPc kb turn deep a ⟨jo, jt, jw, jn, jf, jm, jd, jr, sn⟩) ⟨jo, jt, jw, jn, jf, jm, jd, jr, sn⟩ es fs ps fs St rs RR) w w) := Lib.hid ⟨H, hg0⟩
  clear H hg0 gk hml bs hL0 hfew
  go_enter Tryz.func146, Tryz.ntmps146
  go_wp2_with fail
  go_loopg [2, 3, 4, 5] m (fun gk s2 s3 s4 s5 W => ∃ (i : Nat) (A : Hv) (ps : List (Value × Value)) (St : List Nat) (rs : List Rdr), i + gk = m ∧ s2 = .int .i64 i ∧ Kn.Good ⟨ps, es, fs.drop i, St, rs⟩ A.s ∧ A.s = sn ∧ Star base (growL base 64 58 7 (hdrPc kb turn deep a A) A es fs ps (fs.drop i) St rs RR) W ∧ Goes L0 (growL base 64 58 7 (hdrPc kb turn deep a A) A es fs ps (fs.drop i) St rs RR) w W)
  case atStart => exact ⟨0, ⟨jo, jt, jw, jn, jf, jm, jd, jr, sn⟩, ps, St, rs, by omega, rfl, HGK.out, rfl, HS0.out⟩
  case round =>
    clear HS0 HGK St rs ps
    obtain ⟨i, A, ps, St, rs, hi, rfl, hgood, hsn', hS, hG⟩ := hrel
    obtain ⟨jo, jt, jw, jn, jf, jm, jd, jr, sn2⟩ := A
    simp only at hsn'
    subst hsn'
    have s0 := hS
    have g0 := hG
    simp only [growL, HML.out] at s0 g0
    have hh0 : RowV wr kb 103 (hdrF turn deep a ⟨jo, jt, jw, jn, jf, jm, jd, jr, sn2⟩) 41 := s0.get 0 rfl
    have rf0 : wr.ownsRow base 58 1 jf m (fs.map Ent.v) := s0.get 7 rfl
    have rr0 : wr.ownsRow base 3 1 jr m (mks fs) := s0.get 8 rfl
    by_cases hlt : i < m
    · obtain ⟨x, rest, hdr⟩ : ∃ x rest, fs.drop i = x :: rest := by
        have := HML.out
        exact ⟨_, _, List.drop_eq_getElem_cons (by omega)⟩
      have hx : fs[i]? = some x := by
        have h1 : (fs.drop i)[0]? = some x := by rw [hdr]; rfl
        rwa [List.getElem?_drop] at h1
      have hrest : fs.drop (i + 1) = rest := by
        have h1 : (fs.drop i).drop 1 = rest := by rw [hdr]; rfl
        rwa [List.drop_drop] at h1
      rw [hdr] at hgood s0 g0
      have HREST := Lib.hid hrest
      have HI := Lib.hid hi
      have HGD := Lib.hid hgood
      have hfew := hgood.few
      simp only [List.length_cons] at hfew
      have hxm := hgood.mark x (by simp)
      obtain ⟨xv, xn, XL, q, xmark, xdue⟩ := x
      simp only at hxm
      obtain ⟨hxm1, hxm2, hxn⟩ := hxm
      obtain ⟨c, hc⟩ : ∃ q, es.length = q := ⟨_, rfl⟩
      obtain ⟨pc, hpc⟩ : ∃ q, ps.length = q := ⟨_, rfl⟩
      rw [hc, hpc] at hfew s0 g0
      have HC := Lib.hid hc
      have HPC := Lib.hid hpc
      have hcb : c ≤ 1000 ∧ pc ≤ 2000 := by have : sn2 ≤ 1000 := hgood.seen; omega
      obtain ⟨hcb, hpb⟩ := hcb
      have hmem : MemOk base 64 7 (es ++ ⟨xv, xn, XL, q, xmark, xdue⟩ :: rest) St rs wr := s0.get 9 rfl
      have hxo : wr.ownsRow base 64 7 xv xn (ints XL) := hmem.own ⟨xv, xn, XL, q, xmark, xdue⟩ (by simp)
      obtain ⟨xd, xc, rfl⟩ := own_slice_any hxo
      obtain ⟨gf, cf, rfl, kf⟩ := own_at rf0 (by omega)
      obtain ⟨gr, cr, rfl, kr⟩ := own_at rr0 (by omega)
      have lf := kf i (.slice xd xn xc) (by simp [hx])
      have lr := kr i (.int .i64 xmark) (by simp [mks, hx])
      have c8 : wr.cell? ⟨kb, 35, none⟩ = some (.slice (some ⟨gf, 0, none⟩) m cf) := hh0.cell (by omega)
      have c11 : wr.cell? ⟨kb, 38, none⟩ = some (.slice (some ⟨gr, 0, none⟩) m cr) := hh0.cell (by omega)
      have HXO := Lib.hid hxo
      have HS0 := Lib.hid (And.intro s0 g0)
      have hii : (i : Int) < m := by omega
      have hi0' : (0 : Int) ≤ i := by omega
      clear hS hG hgood hmem hxo kf kr hx hdr hrest hc hpc s0 g0 hi hh0 rf0 rr0
      go_upto_block 1 with fail
      go_wp2_with fail
      clear c8 c11 lf lr
      go_loopg [5, 4] 30 (fun gj s5 s4 W => ∃ (j : Nat) (M : List Int), j + gj = 30 ∧ s5 = .int .i64 j ∧ W.ownsRow base 64 7 s4 (xn + j) (ints (XL ++ M)) ∧ (⟨.slice xd xn xc, xn, XL⟩ : Rdr).At (Value.slice xd xn xc).ownBlock.toList 7 W ∧ (s4.ownBlock = (Value.slice xd xn xc).ownBlock ∨ ∀ b, s4.ownBlock = some b → wr.heap.size ≤ b) ∧ Only (Value.slice xd xn xc).ownBlock.toList wr W)
      case atStart => exact ⟨0, [], by omega, rfl, by rw [List.append_nil]; exact HXO.out, rdr_own HXO.out (by omega), Or.inl rfl, Only.refl _ _⟩
      case round =>
        obtain ⟨j, M, hj, rfl, hrow, hrd, hat, hO⟩ := hrel
        obtain ⟨gd, gc, rfl⟩ := own_slice_any hrow
        by_cases hj30 : j < 30
        · have HJ := Lib.hid hj
          have hb9 := Nat.le_trans HB.out (Nat.le_trans HS0.out.2.only.size hO.size)
          have HRW := Lib.hid (And.intro hrow (And.intro hrd (And.intro hat hO)))
          have hj5 : (0 : Int) ≤ 5 * (j : Int) := by omega
          have hjz : (j : Int) < 30 := by omega
          clear hj hrow hrd hat hO
          go_wp2_with (at_builtin; refine wpList_append3 (by rfl) (.tmp 33) (.tmp 40) 58 (by rfl) base 64 _ _ 7 56 Tryz.underlying58 hi1 hy0 hy1 hy2 rfl (by decide) _ (xn + j) _ rfl (ownsRow_only HRW.out.1 (Only.alloc [] _ (.cells #[.int .i64 (xmark + 6 + 5 * (j : Int)), .int .i64 0, .int .i64 0, .int .i64 0, .int .i64 0, .int .i64 0, .int .i64 0] 64)) (by simp)) (some ⟨_, 0, none⟩) 1 1 [.int .i64 (xmark + 6 + 5 * (j : Int)), .int .i64 0, .int .i64 0, .int .i64 0, .int .i64 0, .int .i64 0, .int .i64 0] rfl rfl (fun e => by cases e) (fun ad e => by cases e; exact cells_seven _ _ _ _ _ _ _ _ _) (fun u hu => by simp at hu; rcases hu with rfl | rfl <;> rfl) (by unfold maxLen; omega) (by omega) (by simp; omega) ?_)
          intro v9 w9 hown9 h9
          obtain ⟨hrow, hrd, hat, hO⟩ := HRW.out
          have hrow9 : w9.ownsRow base 64 7 v9 (xn + (j + 1)) (ints (XL ++ (M ++ [xmark + 6 + 5 * (j : Int), 0, 0, 0, 0, 0, 0]))) := by
            rw [← Nat.add_assoc]
            simpa [ints, List.append_assoc] using hown9
          have hstep := grow_step hrd hat (fun b hb => (HXO.out.lt b hb).2) hO (Only.alloc [] _ (.cells #[.int .i64 (xmark + 6 + 5 * (j : Int)), .int .i64 0, .int .i64 0, .int .i64 0, .int .i64 0, .int .i64 0, .int .i64 0] 64)) h9 hrow9
          have HF := Lib.hid (And.intro hrow9 hstep)
          clear hown9 h9 hrow hrd hat hO hrow9 hstep
          go_wp2_with fail
          go_roundg (30 - (j + 1))
          case measure => have := HJ.out; omega
          case rel => exact ⟨j + 1, _, by have := HJ.out; omega, by go_num, HF.out⟩
        · have hj' : j = 30 := by omega
          subst hj'
          have hbw := Nat.le_trans HB.out HS0.out.2.only.size
          have s1 := HS0.out.1.grown (x := (⟨.slice xd xn xc, xn, XL, q, xmark, xdue⟩ : Ent)) 9 rfl hO hrd hrow (by omega) hat hbw
          obtain ⟨GM, hGM⟩ : ∃ q, XL ++ M = q := ⟨_, rfl⟩
          rw [hGM] at s1
          have HS2 : Hid (Star base (hdrPc kb turn deep a ⟨jo, jt, jw, jn, .slice (some ⟨gf, 0, none⟩) m cf, jm, jd, .slice (some ⟨gr, 0, none⟩) m cr, sn2⟩ :: (kinY base 58 ⟨jo, jt, jw, jn, .slice (some ⟨gf, 0, none⟩) m cf, jm, jd, .slice (some ⟨gr, 0, none⟩) m cr, sn2⟩ (pc) (ps.map Prod.fst) (pc) (ps.map Prod.snd) (c) (es.map Ent.v) (c) (es.map Ent.note) (c) (mks es) (c) (dus es) (m) (fs.map Ent.v) (m) (mks fs) (memPc base 64 7 (es ++ rest) ((Value.slice xd xn xc).ownBlock.toList ++ ((Value.slice gd (xn + 30) gc).ownBlock.toList ++ St)) (⟨.slice xd xn xc, xn, XL⟩ :: ⟨.slice gd (xn + 30) gc, xn + 30, GM⟩ :: rs)) ++ RR)) _ ∧ Goes L0 (hdrPc kb turn deep a ⟨jo, jt, jw, jn, .slice (some ⟨gf, 0, none⟩) m cf, jm, jd, .slice (some ⟨gr, 0, none⟩) m cr, sn2⟩ :: (kinY base 58 ⟨jo, jt, jw, jn, .slice (some ⟨gf, 0, none⟩) m cf, jm, jd, .slice (some ⟨gr, 0, none⟩) m cr, sn2⟩ (pc) (ps.map Prod.fst) (pc) (ps.map Prod.snd) (c) (es.map Ent.v) (c) (es.map Ent.note) (c) (mks es) (c) (dus es) (m) (fs.map Ent.v) (m) (mks fs) (memPc base 64 7 (es ++ rest) ((Value.slice xd xn xc).ownBlock.toList ++ ((Value.slice gd (xn + 30) gc).ownBlock.toList ++ St)) (⟨.slice xd xn xc, xn, XL⟩ :: ⟨.slice gd (xn + 30) gc, xn + 30, GM⟩ :: rs)) ++ RR)) w _) := Lib.hid (And.intro s1.1 (HS0.out.2.trans s1.2))
          clear s1 hO hrd hrow hat HS0 HXO hj30 hj hbw
          go_upto_region 9 with fail
          refine wp_star HS2.out ?_
          clear HS2
          intro w2 s2 g2
          -- o
          have r2 : w2.ownsRow base 58 1 jo (pc) (ps.map Prod.fst) := s2.get 1 rfl
          obtain ⟨ox2, oy2, rfl⟩ := own_slice_any r2
          have hh2 : RowV w2 kb 103 (hdrF turn deep a ⟨.slice ox2 (pc) oy2, jt, jw, jn, .slice (some ⟨gf, 0, none⟩) m cf, jm, jd, .slice (some ⟨gr, 0, none⟩) m cr, sn2⟩) 41 := s2.get 0 rfl
          have hb2 : base ≤ w2.heap.size := Nat.le_trans HB.out g2.only.size
          have ca2 : w2.cell? ⟨kb, 31, none⟩ = some (.slice ox2 (pc) oy2) := hh2.cell (by omega)
          have R2 := Lib.hid (ownsRow_only r2 (Only.alloc [] w2 (.cells #[.slice gd (xn + 30) gc] 58)) (by simp))
          have HS2 := Lib.hid (And.intro s2 g2)
          clear s2 g2 r2 hh2
          go_upto_region 10 with (at_builtin; refine wpList_append3 (by rfl) (.tmp 46) (.tmp 48) 32 (by rfl) base 58 _ _ 1 24 Tryz.underlying32 hi0 hz0 hz1 hz2 rfl (by decide) _ (pc) _ rfl R2.out (some ⟨w2.heap.size, 0, none⟩) 1 1 [.slice gd (xn + 30) gc] rfl rfl (fun e => by cases e) (fun ad e => by cases e; exact cell_one_new _ _ _) (fun u hu => by simp at hu; subst hu; rfl) (by unfold maxLen; omega) (by omega) (by simp; omega) ?_)
          intro v3 w3 hown3 h3
          obtain ⟨o3, at3⟩ := app3 h3
          have s3 := HS2.out.1.row 1 rfl (Only.alloc [] w2 (.cells #[.slice gd (xn + 30) gc] 58)) hown3 o3 at3 hb2
          have hh3 : RowV w3 kb 103 (hdrF turn deep a ⟨.slice ox2 (pc) oy2, jt, jw, jn, .slice (some ⟨gf, 0, none⟩) m cf, jm, jd, .slice (some ⟨gr, 0, none⟩) m cr, sn2⟩) 41 := s3.1.get 0 rfl
          have cb2 : w3.cell? ⟨kb, 31, none⟩ = some (.slice ox2 (pc) oy2) := hh3.cell (by omega)
          have fb2 : w3.frozen? ⟨kb, 31, none⟩ = false := hh3.free _
          obtain ⟨ox4, oy4, rfl⟩ := own_slice_any hown3
          have s4 := s3.1.hdr 0 rfl (Only.setCell w3 (a := ⟨kb, 31, none⟩) (by simp) (.slice ox4 (pc + 1) oy4)) (hdrS_o hh3 (.slice ox4 (pc + 1) oy4)) (Nat.le_trans hb2 s3.2.only.size)
          have HS4 : Hid (Star base (hdrPc kb turn deep a ⟨.slice ox4 (pc + 1) oy4, jt, jw, jn, .slice (some ⟨gf, 0, none⟩) m cf, jm, jd, .slice (some ⟨gr, 0, none⟩) m cr, sn2⟩ :: (kinY base 58 ⟨.slice ox4 (pc + 1) oy4, jt, jw, jn, .slice (some ⟨gf, 0, none⟩) m cf, jm, jd, .slice (some ⟨gr, 0, none⟩) m cr, sn2⟩ (pc + 1) (ps.map Prod.fst ++ [.slice gd (xn + 30) gc]) (pc) (ps.map Prod.snd) (c) (es.map Ent.v) (c) (es.map Ent.note) (c) (mks es) (c) (dus es) (m) (fs.map Ent.v) (m) (mks fs) (memPc base 64 7 (es ++ rest) ((Value.slice xd xn xc).ownBlock.toList ++ ((Value.slice gd (xn + 30) gc).ownBlock.toList ++ St)) (⟨.slice xd xn xc, xn, XL⟩ :: ⟨.slice gd (xn + 30) gc, xn + 30, GM⟩ :: rs)) ++ RR)) _ ∧ Goes L0 _ w _) := Lib.hid (And.intro s4.1 ((HS2.out.2.trans s3.2).trans s4.2))
          clear hown3 h3 o3 at3 s3 hh3 s4 hb2 ca2
          go_upto_region 10 with fail
          clear cb2 fb2 R2 HS2
          refine wp_star HS4.out ?_
          clear HS4
          intro w4 s4 g4
          -- t (a copy)
          have r4 : w4.ownsRow base 58 1 jt (pc) (ps.map Prod.snd) := s4.get 2 rfl
          obtain ⟨tx4, ty4, rfl⟩ := own_slice_any r4
          have hh4 : RowV w4 kb 103 (hdrF turn deep a ⟨.slice ox4 (pc + 1) oy4, .slice tx4 (pc) ty4, jw, jn, .slice (some ⟨gf, 0, none⟩) m cf, jm, jd, .slice (some ⟨gr, 0, none⟩) m cr, sn2⟩) 41 := s4.get 0 rfl
          have hb4 : base ≤ w4.heap.size := Nat.le_trans HB.out g4.only.size
          have ca4 : w4.cell? ⟨kb, 32, none⟩ = some (.slice tx4 (pc) ty4) := hh4.cell (by omega)
          have HC4 := Lib.hid (fun W (o : Only [] w4 W) => keep_cell o ca4)
          have hv4 := ((s4.get 9 rfl : MemOk base 64 7 (es ++ rest) ((Value.slice xd xn xc).ownBlock.toList ++ ((Value.slice gd (xn + 30) gc).ownBlock.toList ++ St)) (⟨.slice xd xn xc, xn, XL⟩ :: ⟨.slice gd (xn + 30) gc, xn + 30, GM⟩ :: rs) w4).rd ⟨.slice gd (xn + 30) gc, xn + 30, GM⟩ (by simp))
          have HSR := Lib.hid (fun W (o : Only [] w4 W) => rdr_src (hv4.only o (by simp)) (by omega))
          have HLN := Lib.hid (rdr_src hv4 (by omega)).2.2
          have HR4 := Lib.hid (fun W (o : Only [] w4 W) => ownsRow_only r4 o (by simp))
          have HS4 := Lib.hid (And.intro s4 g4)
          have HO1 := Lib.hid (fun u hu => show Value.oneCell' u = true from by simp [ints] at hu; obtain ⟨x, _, rfl⟩ := hu; rfl : ∀ u ∈ ints GM, u.oneCell' = true)
          have hkl := hh4.lt
          clear s4 g4 r4 hh4 hv4
          go_upto_region 10 with fail
          go_region_law (first | (refine step_append3 (by rfl) (.tmp 57) (.tmp 58) 58 (by rfl) w4.heap.size 64 _ _ 7 56 Tryz.underlying58 hi1 hy0 hy1 hy2 rfl (by decide) (.slice (some ⟨w4.heap.size, 0, none⟩) 0 0) 0 [] (by rfl) (World.ownsRow_lit w4.drew #[] 0 (Nat.le_refl _) (by decide) rfl) gd (xn + 30) gc (ints GM) (by rfl) HLN.out (HSR.out w4 (Only.refl _ _)).1 (HSR.out _ ((Only.drew _ _).trans (Only.alloc _ _ _))).2.1 HO1.out (by unfold maxLen; omega) (by omega) (by simp) ?_; intro vt wt hownt ht; rw [Nat.zero_add, List.nil_append] at hownt; obtain ⟨td, tc, rfl⟩ := own_slice_any hownt; have ot := ((Only.drew [] w4).trans (Only.alloc _ _ _)).past (app3 ht).1 (by simp [Value.ownBlock]); have hkt := Nat.lt_of_lt_of_le hkl ot.size; have cat := HC4.out _ ot) | (refine step_append3 (by rfl) (.tmp 56) (.tmp 60) 32 (by rfl) base 58 _ _ 1 24 Tryz.underlying32 hi0 hz0 hz1 hz2 rfl (by decide) (.slice tx4 (pc) ty4) (pc) (ps.map Prod.snd) (by rfl) (HR4.out _ (ot.trans (Only.alloc _ _ _))) (some ⟨wt.heap.size, 0, none⟩) 1 1 [.slice td (xn + 30) tc] (by rfl) rfl (fun e => by cases e) (fun ad e => by cases e; exact cell_one_new _ _ _) (fun u hu => by simp at hu; subst hu; rfl) (by unfold maxLen; omega) (by omega) (by have := ot.size; simp; omega) ?_; intro v5 w5 hown5 h5; obtain ⟨tx6, ty6, rfl⟩ := own_slice_any hown5; have st := HS4.out.1.note 9 rfl ot hownt (by omega) hb4; have hbt := Nat.le_trans hb4 ot.size; have s5 := st.1.row 2 rfl (Only.alloc [] wt _) hown5 (app3 h5).1 (app3 h5).2 hbt; have hh5 : RowV w5 kb 103 (hdrF turn deep a ⟨.slice ox4 (pc + 1) oy4, .slice tx4 (pc) ty4, jw, jn, .slice (some ⟨gf, 0, none⟩) m cf, jm, jd, .slice (some ⟨gr, 0, none⟩) m cr, sn2⟩) 41 := s5.1.get 0 rfl; have cb4 : w5.cell? ⟨kb, 32, none⟩ = some (.slice tx4 (pc) ty4) := hh5.cell (by omega); have fb4 : w5.frozen? ⟨kb, 32, none⟩ = false := hh5.free _; have s6 := s5.1.hdr 0 rfl (Only.setCell w5 (a := ⟨kb, 32, none⟩) (by simp) (.slice tx6 (pc + 1) ty6)) (hdrS_t hh5 (.slice tx6 (pc + 1) ty6)) (Nat.le_trans hbt s5.2.only.size); have HS6 := Lib.hid (And.intro s6.1 (((HS4.out.2.trans st.2).trans s5.2).trans s6.2)); clear hownt ht ot hkt hown5 h5 st s5 hh5 s6 hbt))
          all_goals
            have HQ : Hid (Star base (hdrPc kb turn deep a ⟨.slice ox4 (pc + 1) oy4, .slice tx6 (pc + 1) ty6, jw, jn, .slice (some ⟨gf, 0, none⟩) m cf, jm, jd, .slice (some ⟨gr, 0, none⟩) m cr, sn2⟩ :: (kinY base 58 ⟨.slice ox4 (pc + 1) oy4, .slice tx6 (pc + 1) ty6, jw, jn, .slice (some ⟨gf, 0, none⟩) m cf, jm, jd, .slice (some ⟨gr, 0, none⟩) m cr, sn2⟩ (pc + 1) (ps.map Prod.fst ++ [.slice gd (xn + 30) gc]) (pc + 1) (ps.map Prod.snd ++ [.slice td (xn + 30) tc]) (c) (es.map Ent.v) (c) (es.map Ent.note) (c) (mks es) (c) (dus es) (m) (fs.map Ent.v) (m) (mks fs) (memPc base 64 7 (es ++ rest) ((Value.slice td (xn + 30) tc).ownBlock.toList ++ ((Value.slice xd xn xc).ownBlock.toList ++ ((Value.slice gd (xn + 30) gc).ownBlock.toList ++ St))) (⟨.slice td (xn + 30) tc, xn + 30, GM⟩ :: ⟨.slice xd xn xc, xn, XL⟩ :: ⟨.slice gd (xn + 30) gc, xn + 30, GM⟩ :: rs)) ++ RR)) _ ∧ Goes L0 (hdrPc kb turn deep a ⟨.slice ox4 (pc + 1) oy4, .slice tx6 (pc + 1) ty6, jw, jn, .slice (some ⟨gf, 0, none⟩) m cf, jm, jd, .slice (some ⟨gr, 0, none⟩) m cr, sn2⟩ :: (kinY base 58 ⟨.slice ox4 (pc + 1) oy4, .slice tx6 (pc + 1) ty6, jw, jn, .slice (some ⟨gf, 0, none⟩) m cf, jm, jd, .slice (some ⟨gr, 0, none⟩) m cr, sn2⟩ (pc + 1) (ps.map Prod.fst ++ [.slice gd (xn + 30) gc]) (pc + 1) (ps.map Prod.snd ++ [.slice td (xn + 30) tc]) (c) (es.map Ent.v) (c) (es.map Ent.note) (c) (mks es) (c) (dus es) (m) (fs.map Ent.v) (m) (mks fs) (memPc base 64 7 (es ++ rest) ((Value.slice td (xn + 30) tc).ownBlock.toList ++ ((Value.slice xd xn xc).ownBlock.toList ++ ((Value.slice gd (xn + 30) gc).ownBlock.toList ++ St))) (⟨.slice td (xn + 30) tc, xn + 30, GM⟩ :: ⟨.slice xd xn xc, xn, XL⟩ :: ⟨.slice gd (xn + 30) gc, xn + 30, GM⟩ :: rs)) ++ RR)) w _) := Lib.hid HS6.out
            clear HS6
            go_upto_region 2 with fail
            refine wp_star HQ.out ?_
            intro w6 s6 g6
            have hke := growL_next base 64 58 7 (hdrPc kb turn deep a ⟨.slice ox4 (pc + 1) oy4, .slice tx6 (pc + 1) ty6, jw, jn, .slice (some ⟨gf, 0, none⟩) m cf, jm, jd, .slice (some ⟨gr, 0, none⟩) m cr, sn2⟩) ⟨.slice ox4 (pc + 1) oy4, .slice tx6 (pc + 1) ty6, jw, jn, .slice (some ⟨gf, 0, none⟩) m cf, jm, jd, .slice (some ⟨gr, 0, none⟩) m cr, sn2⟩ es fs ps (.slice gd (xn + 30) gc) (.slice td (xn + 30) tc) rest ((Value.slice td (xn + 30) tc).ownBlock.toList ++ ((Value.slice xd xn xc).ownBlock.toList ++ ((Value.slice gd (xn + 30) gc).ownBlock.toList ++ St))) (⟨.slice td (xn + 30) tc, xn + 30, GM⟩ :: ⟨.slice xd xn xc, xn, XL⟩ :: ⟨.slice gd (xn + 30) gc, xn + 30, GM⟩ :: rs) RR
            rw [HML.out, HC.out, HPC.out] at hke
            have HF := Lib.hid (And.intro (s6.congr hke.symm) (g6.to hke.symm))
            rw [← HREST.out] at HF
            have hgd : Kn.Good ⟨ps ++ [(.slice gd (xn + 30) gc, .slice td (xn + 30) tc)], es, fs.drop (i + 1), ((Value.slice td (xn + 30) tc).ownBlock.toList ++ ((Value.slice xd xn xc).ownBlock.toList ++ ((Value.slice gd (xn + 30) gc).ownBlock.toList ++ St))), ⟨.slice td (xn + 30) tc, xn + 30, GM⟩ :: ⟨.slice xd xn xc, xn, XL⟩ :: ⟨.slice gd (xn + 30) gc, xn + 30, GM⟩ :: rs⟩ sn2 := by rw [HREST.out]; exact good_grow (x := (⟨.slice xd xn xc, xn, XL, q, xmark, xdue⟩ : Ent)) HGD.out (fun r hr => by simp [hr]) (by simp) (n2 := xn + 30) (L2 := GM) (by simp) (by simp)
            have HGD2 := Lib.hid hgd
            clear hke hgd s6 g6
            go_wp2_with fail
            go_roundg (m - (i + 1))
            case measure => have := HI.out; omega
            case rel => exact ⟨i + 1, ⟨.slice ox4 (pc + 1) oy4, .slice tx6 (pc + 1) ty6, jw, jn, .slice (some ⟨gf, 0, none⟩) m cf, jm, jd, .slice (some ⟨gr, 0, none⟩) m cr, sn2⟩, _, _, _, by have := HI.out; omega, by go_num, HGD2.out, rfl, HF.out⟩
    · have him : i = m := by omega
      subst him
      have hdrop : fs.drop i = [] := List.drop_eq_nil_of_le (by have := HML.out; omega)
      rw [hdrop] at hgood s0 g0
      obtain ⟨fd, fcp, rfl⟩ := own_slice_any rf0
      obtain ⟨rd, rcp, rfl⟩ := own_slice_any rr0
      have c8 : wr.cell? ⟨kb, 35, none⟩ = some (.slice fd i fcp) := hh0.cell (by omega)
      have c11 : wr.cell? ⟨kb, 38, none⟩ = some (.slice rd i rcp) := hh0.cell (by omega)
      have f8 : wr.frozen? ⟨kb, 35, none⟩ = false := hh0.free _
      have f11 : wr.frozen? ⟨kb, 38, none⟩ = false := hh0.free _
      have hbw := Nat.le_trans HB.out g0.only.size
      have t1 := s0.hdr 0 rfl (Only.setCell wr (a := ⟨kb, 35, none⟩) (by simp) (.slice none 0 0)) (hdrS_f hh0 (.slice none 0 0)) hbw
      have t2 := t1.1.hdr 0 rfl (Only.setCell _ (a := ⟨kb, 38, none⟩) (by simp) (.slice none 0 0)) (hdrS_r (t1.1.get 0 rfl) (.slice none 0 0)) (Nat.le_trans hbw t1.2.only.size)
      have hb2 := Nat.le_trans (Nat.le_trans hbw t1.2.only.size) t2.2.only.size
      have t3 := t2.1.say (p' := rowPc base 58 1 (.slice none 0 0) 0 []) 7 rfl (World.ownsRow_nil _ _ _ _) (rowPc_ok _ _ _ _ _ _) hb2 (by simp [rowPc, Value.ownBlock])
      have t4 := t3.1.say (p' := rowPc base 3 1 (.slice none 0 0) 0 []) 8 rfl (World.ownsRow_nil _ _ _ _) (rowPc_ok _ _ _ _ _ _) hb2 (by simp [rowPc, Value.ownBlock])
      have hst := (((g0.trans t1.2).trans t2.2).trans t3.2).trans t4.2
      have HF := Lib.hid (HEND.out _ ⟨jo, jt, jw, jn, .slice none 0 0, jm, jd, .slice none 0 0, sn2⟩ ⟨ps, es, [], St, rs⟩ t4.1 hst hgood rfl rfl)
      clear t1 t2 t3 t4 hst hb2 hbw s0 g0 hh0 rf0 rr0 hS hG hgood hdrop hlt hi
      go_wp2_with fail
      go_end0
      exact HF.out

end Go.Proofs.YtpknnamficegbaaGreatDoor

