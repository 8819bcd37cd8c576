/- Two pairs of pools and the book, apart from one another: what a call does to one of them leaves the others. Laws of worlds; each names its conditions. The statement's does, of any kind. -/
import Derived.Test.YtpknnamficegbaaGreatDoorCLookX
import Derived.Test.YtpknnamficegbaaGreatDoorCBegun
import Derived.Test.YtpknnamficegbaaGreatDoorCDoesX
import Derived.Test.YtpknnamficegbaaGreatDoorCDoesY
import Derived.Test.YtpknnamficegbaaGreatDoorCDoesZ
import Derived.Test.YtpknnamficegbaaGreatDoorCStands
set_option linter.unusedVariables false
set_option linter.unusedSimpArgs false
set_option linter.unusedSectionVars false
set_option linter.unnecessarySimpa false
namespace Go.Proofs.YtpknnamficegbaaGreatDoor
open Go.RowKit

theorem does_any {w : World} {B : PB} {n c : Nat} {s : Ps} {hs : List Int} {kind h a v xa xb xc xd : Int} {sec : Bool} (H : PairAt w B n s hs) (I : s.Inv n c) (hc : c + 1 ≤ 1000) (hl : hs.length ≤ 1000) (hr : (-9223372036854775808 ≤ h ∧ h ≤ 9223372036854775807) ∧ (-9223372036854775808 ≤ v ∧ v ≤ 9223372036854775807)) :
    Calls Tryz.prog 6 #[.pointer (some ⟨B.x, 0, none⟩), .agg #[.int .i64 kind, .int .i64 h, .int .i64 a, .int .i64 v, .int .i64 xa, .int .i64 xb, .int .i64 xc, .int .i64 xd, .bool sec]] w (DoesOut n (c + 1) (hs.length + 1) B w) := by
  by_cases h1 : kind = 1
  · subst h1; exact does_1 H I hc hl hr
  by_cases h2 : kind = 2
  · subst h2; exact does_2 H I hc hl hr
  by_cases h3 : kind = 3
  · subst h3; exact does_3 H I hc hl hr
  by_cases h4 : kind = 4
  · subst h4; exact does_4 H I hc hl hr
  by_cases h5 : kind = 5
  · subst h5; exact does_5 H I hc hl hr
  by_cases h6 : kind = 6
  · subst h6; exact does_6 H I hc hl hr
  by_cases h7 : kind = 7
  · subst h7; exact does_7 H I hc hl hr
  by_cases h8 : kind = 8
  · subst h8; exact does_8 H I hc hl hr
  by_cases h10 : kind = 10
  · subst h10; exact does_10 H I hc hl hr
  exact does_0 H I hc hl ⟨h1, h2, h3, h4, h5, h6, h7, h8, h10⟩ hr

/-- A pair among others: its state, its handles. -/
structure PQ where
  v : Value
  s : Ps
  hs : List Int

/-- Two pairs and the book. -/
structure MainSt (w0 W : World) (x1 x2 : Nat) (A1 A2 : PA) (R1 R2 : RP) (n1 n2 kb i : Nat) (q1 q2 : PQ) (T : Int) (a b : Hv) (kI kS : Kn) : Prop where
  p1 : PairAt W ⟨x1, A1, R1, q1.v⟩ n1 q1.s q1.hs
  p2 : PairAt W ⟨x2, A2, R2, q2.v⟩ n2 q2.s q2.hs
  i1 : Ps.Inv q1.s n1 i
  i2 : Ps.Inv q2.s n2 i
  l1 : q1.hs.length ≤ i
  l2 : q2.hs.length ≤ i
  bk : BookIn W kb kb T 0 a b kI kS
  d12 : ∀ x, x ∈ (PB.mk x1 A1 R1 q1.v).bl → x ∉ (PB.mk x2 A2 R2 q2.v).bl
  d1 : ∀ x, x ∈ (PB.mk x1 A1 R1 q1.v).bl → x ∉ bls (bookL kb kb T 0 a b kI kS)
  d2 : ∀ x, x ∈ (PB.mk x2 A2 R2 q2.v).bl → x ∉ bls (bookL kb kb T 0 a b kI kS)
  only : Only [] w0 W
  o1 : ∀ x, x ∈ (PB.mk x1 A1 R1 q1.v).bl → w0.heap.size ≤ x
  o2 : ∀ x, x ∈ (PB.mk x2 A2 R2 q2.v).bl → w0.heap.size ≤ x
  ok : w0.heap.size ≤ kb

theorem BookIn.only {S : List Nat} {w w' : World} {base kb : Nat} {T d : Int} {a b : Hv} {kI kS : Kn} (h : BookIn w base kb T d a b kI kS) (o : Only S w w') (hn : ∀ x, x ∈ bls (bookL base kb T d a b kI kS) → x ∉ S) : BookIn w' base kb T d a b kI kS :=
  ⟨h.star.only o hn, h.gi, h.gs, h.fi, h.fs, Nat.le_trans h.bs o.size, h.tn⟩

theorem bl_v {x : Nat} {A : PA} {R : RP} {v v' : Value} {N : Nat} (h : ∀ b, v'.ownBlock = some b → v.ownBlock = some b ∨ N ≤ b) : ∀ b, b ∈ (PB.mk x A R v').bl → b ∈ (PB.mk x A R v).bl ∨ N ≤ b := by
  intro b hb
  simp only [PB.bl, List.mem_cons, List.mem_append, Option.mem_toList] at hb ⊢
  rcases hb with hb | hb | hb | hb
  · exact Or.inl (Or.inl hb)
  · exact Or.inl (Or.inr (Or.inl hb))
  · exact Or.inl (Or.inr (Or.inr (Or.inl hb)))
  · rcases h b hb with h1 | h1
    · exact Or.inl (Or.inr (Or.inr (Or.inr h1)))
    · exact Or.inr h1

section
variable {w0 W W' : World} {x1 x2 : Nat} {A1 A2 : PA} {R1 R2 : RP} {n1 n2 kb i : Nat} {q1 q2 : PQ} {T : Int} {a b : Hv} {kI kS : Kn}

theorem MainSt.swap (h : MainSt w0 W x1 x2 A1 A2 R1 R2 n1 n2 kb i q1 q2 T a b kI kS) : MainSt w0 W x2 x1 A2 A1 R2 R1 n2 n1 kb i q2 q1 T a b kI kS :=
  ⟨h.p2, h.p1, h.i2, h.i1, h.l2, h.l1, h.bk, fun x hx hm => h.d12 x hm hx, h.d2, h.d1, h.only, h.o2, h.o1, h.ok⟩

theorem MainSt.plain (h : MainSt w0 W x1 x2 A1 A2 R1 R2 n1 n2 kb i q1 q2 T a b kI kS) (o : Only [] W W') : MainSt w0 W' x1 x2 A1 A2 R1 R2 n1 n2 kb i q1 q2 T a b kI kS :=
  ⟨h.p1.plain o, h.p2.plain o, h.i1, h.i2, h.l1, h.l2, h.bk.only o (by simp), h.d12, h.d1, h.d2, h.only.trans o, h.o1, h.o2, h.ok⟩

/-- Behind a call of the first pair. -/
theorem MainSt.does (h : MainSt w0 W x1 x2 A1 A2 R1 R2 n1 n2 kb i q1 q2 T a b kI kS) (hi : i + 1 ≤ 1000) {v : Value} {s : Ps} {hs : List Int} (hp : PairAt W' ⟨x1, A1, R1, v⟩ n1 s hs) (I : s.Inv n1 (i + 1)) (hl : hs.length ≤ q1.hs.length + 1) (o : Only (PB.mk x1 A1 R1 q1.v).bl W W') (hv : ∀ b, v.ownBlock = some b → q1.v.ownBlock = some b ∨ W.heap.size ≤ b) :
    MainSt w0 W' x1 x2 A1 A2 R1 R2 n1 n2 kb (i + 1) ⟨v, s, hs⟩ q2 T a b kI kS := by
  have hbl := bl_v (x := x1) (A := A1) (R := R1) hv
  refine ⟨hp, h.p2.only o (fun x hx hm => h.d12 x hm hx), I, h.i2.more hi, by have := h.l1; simp only; omega, by have := h.l2; omega, h.bk.only o (fun x hx hm => h.d1 x hm hx), fun x hx hm => ?_, fun x hx hm => ?_, h.d2, h.only.past o (fun x hx => Or.inr (h.o1 x hx)), fun x hx => ?_, h.o2, h.ok⟩
  · rcases hbl x hx with h1 | h1
    · exact h.d12 x h1 hm
    · have := h.p2.lt x hm; omega
  · rcases hbl x hx with h1 | h1
    · exact h.d1 x h1 hm
    · have := (h.bk.star.lies x hm).2; omega
  · rcases hbl x hx with h1 | h1
    · exact h.o1 x h1
    · exact Nat.le_trans h.only.size h1

/-- Behind stands of the first pair. -/
theorem MainSt.stands (h : MainSt w0 W x1 x2 A1 A2 R1 R2 n1 n2 kb i q1 q2 T a b kI kS) {T' : Int} {a' b' : Hv} {kI' kS' : Kn} (hp : PairAt W' ⟨x1, A1, R1, q1.v⟩ n1 q1.s q1.hs) (hb : BookIn W' kb kb T' 0 a' b' kI' kS') (g : Goes (bookL kb kb T 0 a b kI kS) (bookL kb kb T' 0 a' b' kI' kS') W W') :
    MainSt w0 W' x1 x2 A1 A2 R1 R2 n1 n2 kb i q1 q2 T' a' b' kI' kS' := by
  refine ⟨hp, h.p2.only g.only h.d2, h.i1, h.i2, h.l1, h.l2, hb, h.d12, fun x hx hm => ?_, fun x hx hm => ?_, h.only.past g.only (fun x hx => Or.inr (Nat.le_trans h.ok (h.bk.star.lies x hx).1)), h.o1, h.o2, h.ok⟩
  · rcases g.new x hm with h1 | h1
    · exact h.d1 x hx h1
    · have := h.p1.lt x hx; omega
  · rcases g.new x hm with h1 | h1
    · exact h.d2 x hx h1
    · have := h.p2.lt x hx; omega

/-- The statement's does, of the first pair or the second. -/
theorem main_does (h : MainSt w0 W x1 x2 A1 A2 R1 R2 n1 n2 kb i q1 q2 T a b kI kS) (hi : i + 1 ≤ 1000) {kind hh aa v xa xb xc xd : Int} (sec : Bool) (hr : (-9223372036854775808 ≤ hh ∧ hh ≤ 9223372036854775807) ∧ (-9223372036854775808 ≤ v ∧ v ≤ 9223372036854775807)) :
    Calls Tryz.prog 6 #[.pointer (some ⟨if sec then x2 else x1, 0, none⟩), .agg #[.int .i64 kind, .int .i64 hh, .int .i64 aa, .int .i64 v, .int .i64 xa, .int .i64 xb, .int .i64 xc, .int .i64 xd, .bool sec]] W fun e w' => e = .returned (.bool true) ∧ ∃ p1 p2, MainSt w0 w' x1 x2 A1 A2 R1 R2 n1 n2 kb (i + 1) p1 p2 T a b kI kS := by
  cases sec with
  | false =>
    refine (does_any h.p1 h.i1 hi (by have := h.l1; omega) hr).mono fun e w' x => ?_
    obtain ⟨he, v', s', hs', hp, I, hl, o, hv⟩ := x
    exact ⟨he, _, _, h.does hi hp I hl o hv⟩
  | true =>
    refine (does_any h.p2 h.i2 hi (by have := h.l2; omega) hr).mono fun e w' x => ?_
    obtain ⟨he, v', s', hs', hp, I, hl, o, hv⟩ := x
    exact ⟨he, _, _, (h.swap.does hi hp I hl o hv).swap⟩

/-- The statement's stands, of the first pair. -/
theorem main_stands (h : MainSt w0 W x1 x2 A1 A2 R1 R2 n1 n2 kb i q1 q2 T a b kI kS) {mark : Int} (ht : T ≤ 9000) (ha : a.s + 2 ≤ 1000) (hb : b.s + 2 ≤ 1000) (hm : 0 ≤ mark ∧ mark ≤ 1000000) :
    Calls Tryz.prog 7 #[.pointer (some ⟨x1, 0, none⟩), .pointer (some ⟨kb, 0, none⟩), .int .i64 mark] W fun e w' => e = .returned (.bool true) ∧ ∃ T' a' b' kI' kS', MainSt w0 w' x1 x2 A1 A2 R1 R2 n1 n2 kb i q1 q2 T' a' b' kI' kS' ∧ T' = T + 4 ∧ a'.s = a.s + 2 ∧ b'.s = b.s + 2 := by
  refine (stands_ok h.p1 h.bk h.d1 ht ha hb hm).mono fun e w' x => ?_
  obtain ⟨he, hp, a', b', kI', kS', hk, g, h1, h2⟩ := x
  exact ⟨he, _, a', b', kI', kS', h.stands hp hk g, rfl, h1, h2⟩

theorem main_stands2 (h : MainSt w0 W x1 x2 A1 A2 R1 R2 n1 n2 kb i q1 q2 T a b kI kS) {mark : Int} (ht : T ≤ 9000) (ha : a.s + 2 ≤ 1000) (hb : b.s + 2 ≤ 1000) (hm : 0 ≤ mark ∧ mark ≤ 1000000) :
    Calls Tryz.prog 7 #[.pointer (some ⟨x2, 0, none⟩), .pointer (some ⟨kb, 0, none⟩), .int .i64 mark] W fun e w' => e = .returned (.bool true) ∧ ∃ T' a' b' kI' kS', MainSt w0 w' x1 x2 A1 A2 R1 R2 n1 n2 kb i q1 q2 T' a' b' kI' kS' ∧ T' = T + 4 ∧ a'.s = a.s + 2 ∧ b'.s = b.s + 2 :=
  (main_stands h.swap ht ha hb hm).mono fun e w' x => by
    obtain ⟨he, T', a', b', kI', kS', hM, hT⟩ := x
    exact ⟨he, T', a', b', kI', kS', hM.swap, hT⟩

end

end Go.Proofs.YtpknnamficegbaaGreatDoor

