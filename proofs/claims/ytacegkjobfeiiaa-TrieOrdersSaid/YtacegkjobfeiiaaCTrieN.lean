/- A node made, in the midst of an edit; splits as a call. Conditions: the pool stands in memory as PoolAt says, the edit on its way as MSt says. -/
import Derived.Test.YtacegkjobfeiiaaCTrieM
set_option linter.unusedVariables false
set_option linter.unusedSimpArgs false
set_option linter.unusedSectionVars false
set_option linter.unnecessarySimpa false
namespace Go.Proofs.Ytacegkjobfeiiaa
open Go.RowKit

/-- An edit on its way: k places have been taken. -/
structure MSt (A : PA) (n : Nat) (S0 : Nat → Sl) (fs0 : List Nat) (t0 fa : Int) (tb mb base : Nat) (old : Int) (had : Bool) (gone : List Int) (wS : World) (k : Nat) (S : Nat → Sl) (fs : List Nat) (t root : Int) (gv mv : Value) (w : World) : Prop where
  me : MkAt w mb tb base root old had gv mv gone (mds S0 (fs0.take k))
  tr : TrAt w tb A n S t fs fa
  mg : Mg S0 S fs0 fs t0 t k
  only : Only A.all wS w

theorem MSt.plain {A : PA} {n : Nat} {S0 : Nat → Sl} {fs0 : List Nat} {t0 fa : Int} {tb mb base : Nat} {old : Int} {had : Bool} {gone : List Int} {wS : World} {k : Nat} {S : Nat → Sl} {fs : List Nat} {t root : Int} {gv mv : Value} {w w' : World}
    (h : MSt A n S0 fs0 t0 fa tb mb base old had gone wS k S fs t root gv mv w) (o : Only [] w w') : MSt A n S0 fs0 t0 fa tb mb base old had gone wS k S fs t root gv mv w' :=
  ⟨h.me.plain o, h.tr.plain o, h.mg, h.only.trans (o.mono (by simp))⟩

/-- What stays through an edit. -/
structure Ed (A : PA) (n : Nat) (S0 : Nat → Sl) (fs0 : List Nat) (t0 c : Int) (tb mb base : Nat) (wS : World) : Prop where
  sit : Sit mb tb base A
  fre : Fre n S0 fs0 c
  hc : c < 999998
  ht : t0 + 2 * fs0.length ≤ 1000000
  hn : n ≤ 4096
  mb : base ≤ mb
  bS : base = wS.heap.size

theorem Ed.len {A : PA} {n : Nat} {S0 : Nat → Sl} {fs0 : List Nat} {t0 c : Int} {tb mb base : Nat} {wS : World} (h : Ed A n S0 fs0 t0 c tb mb base wS) : fs0.length ≤ 4096 := by
  have := nodup_length n fs0 h.fre.nodup (fun x hx => ⟨(h.fre.rng x hx).1, (h.fre.rng x hx).2.1⟩)
  have := h.hn
  omega

def MakeOk (A : PA) (n : Nat) (S0 : Nat → Sl) (fs0 : List Nat) (t0 fa : Int) (tb mb base : Nat) (old : Int) (had : Bool) (gone : List Int) (wS : World) (k : Nat) (S : Nat → Sl) (fs : List Nat) (t : Int) (gv mv : Value) (a b c d : Int) (w : World) (e : Ending) (w' : World) : Prop :=
  e = .returned (.int .i64 0) ∧ ∃ i r mv', fs = i :: r ∧ MSt A n S0 fs0 t0 fa tb mb base old had gone wS (k + 1) (upS S i ⟨(S i).gen + 1, 0, 0, a, b, c, d⟩) r (t + 1) (wd i ((S i).gen + 1)) gv mv' w' ∧ Only (mb :: (mv.ownBlock.toList ++ A.all)) w w' ∧ ∀ b, mv'.ownBlock = some b → mv.ownBlock = some b ∨ w.heap.size ≤ b

/-- Made, or not; which blocks are turned. -/
def MakePost (A : PA) (n : Nat) (S0 : Nat → Sl) (fs0 : List Nat) (t0 fa : Int) (tb mb base : Nat) (old : Int) (had : Bool) (gone : List Int) (wS : World) (k : Nat) (S : Nat → Sl) (fs : List Nat) (t : Int) (gv mv : Value) (a b c d : Int) (w : World) (e : Ending) (w' : World) : Prop :=
  (∃ x : Int, e = .returned (.int .i64 x)) ∧ Only (mb :: (mv.ownBlock.toList ++ A.all)) w w' ∧ (MakeOk A n S0 fs0 t0 fa tb mb base old had gone wS k S fs t gv mv a b c d w e w' ∨ UpNo A n S0 fs0 t0 fa tb mb (k + 1) wS e w')

theorem mst_makes {A : PA} {n : Nat} {S0 : Nat → Sl} {fs0 : List Nat} {t0 fa c0 : Int} {tb mb base : Nat} {old : Int} {had : Bool} {gone : List Int} {wS : World} {k : Nat} {S : Nat → Sl} {fs : List Nat} {t root : Int} {gv mv : Value} {w : World} {a b c d : Int}
    (h : MSt A n S0 fs0 t0 fa tb mb base old had gone wS k S fs t root gv mv w) (E : Ed A n S0 fs0 t0 c0 tb mb base wS) :
    Calls Try.prog 70 #[.pointer (some ⟨mb, 0, none⟩), .agg #[.int .i64 a, .int .i64 b, .int .i64 c, .int .i64 d]] w
      (MakePost A n S0 fs0 t0 fa tb mb base old had gone wS k S fs t gv mv a b c d w) := by
  have hb : base ≤ w.heap.size := by rw [E.bS]; exact h.only.size
  have G := h.mg
  have hle := G.le
  have htg := G.tag
  have hfl := E.len
  have hht := E.ht
  have hhc := E.hc
  have hmb := E.mb
  have hbS := E.bS
  have hpast : ∀ {L : List Nat} {w' : World}, Only L w w' → (∀ b, b ∈ L → b ∈ A.all ∨ base ≤ b) → Only A.all wS w' := fun o hL => h.only.past o (fun b hb => (hL b hb).imp id (fun h => by rw [← hbS]; exact h))
  cases fs with
  | nil =>
    refine (makes_undo h.tr h.me E.sit G E.fre (by omega) hht hb E.hn).mono ?_
    rintro e w' ⟨rfl, hk, hB, ⟨S', t', hT, hU, ht'⟩, hX⟩
    refine ⟨⟨_, rfl⟩, hX.mono (by intro b hb; simp at hb ⊢; rcases hb with h | h <;> simp [h]), Or.inr ⟨rfl, by omega, hB, S', t', hT, hU, ht', hpast hX (fun b hb => ?_)⟩⟩
    rcases List.mem_cons.1 hb with rfl | hb
    · exact Or.inr hmb
    · exact Or.inl hb
  | cons i r =>
    obtain ⟨hs1, hs2, hs3, hs4, hs5⟩ := (G.fre E.fre).spare (by omega) (show i ∈ i :: r by simp)
    have hml : (mds S0 (fs0.take k)).length ≤ 5000 := by rw [mds_length, List.length_take]; omega
    refine (makes_ok h.tr h.me E.sit ⟨hs4, by omega⟩ (by omega) hml hb).mono ?_
    rintro e w' ⟨rfl, mv', hM, hT, hX, hn⟩
    have hst := G.step E.fre rfl ⟨(S i).gen + 1, 0, 0, a, b, c, d⟩ rfl
    refine ⟨⟨_, rfl⟩, hX, Or.inl ⟨rfl, i, r, mv', rfl, ⟨?_, hT, hst.1, hpast hX (fun b hb => ?_)⟩, hX, hn⟩⟩
    · rw [← mds_snoc G rfl, ← hst.2.1]; exact hM
    · simp only [List.mem_cons, List.mem_append] at hb
      rcases hb with rfl | hb | hb
      · exact Or.inr hmb
      · exact Or.inr (h.me.mown.lt b (by simpa using hb)).1
      · exact Or.inl hb

theorem mst_leaf {A : PA} {n : Nat} {S0 : Nat → Sl} {fs0 : List Nat} {t0 fa c0 : Int} {tb mb base : Nat} {old : Int} {had : Bool} {gone : List Int} {wS : World} {k : Nat} {S : Nat → Sl} {fs : List Nat} {t root : Int} {gv mv : Value} {w : World} {x v : Int}
    (h : MSt A n S0 fs0 t0 fa tb mb base old had gone wS k S fs t root gv mv w) (E : Ed A n S0 fs0 t0 c0 tb mb base wS) :
    Calls Try.prog 43 #[.pointer (some ⟨mb, 0, none⟩), .int .i64 x, .int .i64 v] w
      (MakePost A n S0 fs0 t0 fa tb mb base old had gone wS k S fs t gv mv 0 x v 1 w) :=
  mk_leaf ((mst_makes h E).mono fun e w' hh => by
    obtain ⟨x, hx⟩ := hh.1
    exact ⟨x, hx, hh⟩)

theorem mst_fork {A : PA} {n : Nat} {S0 : Nat → Sl} {fs0 : List Nat} {t0 fa c0 : Int} {tb mb base : Nat} {old : Int} {had : Bool} {gone : List Int} {wS : World} {k : Nat} {S : Nat → Sl} {fs : List Nat} {t root : Int} {gv mv : Value} {w : World} {p : Nat} {f l r c : Int} (hp : p < 32) (hf : 0 ≤ f ∧ f ≤ 4294967295)
    (h : MSt A n S0 fs0 t0 fa tb mb base old had gone wS k S fs t root gv mv w) (E : Ed A n S0 fs0 t0 c0 tb mb base wS) :
    Calls Try.prog 73 #[.pointer (some ⟨mb, 0, none⟩), .int .i64 p, .int .i64 f, .int .i64 l, .int .i64 r, .int .i64 c] w
      (MakePost A n S0 fs0 t0 fa tb mb base old had gone wS k S fs t gv mv (f * 64 + p + 1) l r c w) :=
  mk_fork hp hf ((mst_makes h E).mono fun e w' hh => by
    obtain ⟨x, hx⟩ := hh.1
    exact ⟨x, hx, hh⟩)

theorem shr_any (T : TypeId) (lo : Int) (p : Nat) (hlo : 0 ≤ lo ∧ lo ≤ 4294967295) (hp : p < 64) (w : World) : (binOp .shr T (.int .i64 lo) (.int .i64 p)).run Try.prog w = .ok (.int .i64 (lo / pw p)) w := by
  have h1 : min ((p : Int).toNat) 64 = p := by simp; omega
  have h2 : lo / pw p ≤ lo := Int.ediv_le_self _ hlo.1
  have h3 : 0 ≤ lo / pw p := Int.ediv_nonneg hlo.1 (Int.le_of_lt (pw_pos _))
  have h4 : IntKind.i64.wrap (lo / pw p) = lo / pw p := wraps_i64 _ (by omega) (by omega)
  simp [binOp, pw_cast, h4]

theorem shl_any (T : TypeId) (q : Int) (p : Nat) (hq : 0 ≤ q * pw p ∧ q * pw p ≤ 4294967295) (hp : p < 64) (w : World) : (binOp .shl T (.int .i64 q) (.int .i64 p)).run Try.prog w = .ok (.int .i64 (q * pw p)) w := by
  have h2 : IntKind.i64.wrap (q * pw p) = q * pw p := wraps_i64 _ (by omega) (by omega)
  simp [binOp, pw_cast, h2]

end Go.Proofs.Ytacegkjobfeiiaa

