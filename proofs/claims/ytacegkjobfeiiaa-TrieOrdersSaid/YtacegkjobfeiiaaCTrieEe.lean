/- Put and Drop of a map that may be empty, whatever the key: as calls. Conditions: the map stands in memory as TrAt and RepO say, the free places as Fre says. -/
import Derived.Test.YtacegkjobfeiiaaCRowsX
import Derived.Test.YtacegkjobfeiiaaCEditX
import Derived.Test.YtacegkjobfeiiaaCTrieDropB
import Derived.Test.YtacegkjobfeiiaaCTriePut
set_option linter.unusedVariables false
set_option linter.unusedSimpArgs false
set_option linter.unusedSectionVars false
set_option linter.unnecessarySimpa false
namespace Go.Proofs.Ytacegkjobfeiiaa
open Go.RowKit

def InK (k : Int) : Prop := 0 ≤ k ∧ k ≤ 4294967295

theorem prs_rising {n : Nat} {S : Nat → Sl} {ox : Option Tr} (h : RepO n S ox) : Tr.rising (prs ox) := by
  cases ox with
  | none => exact trivial
  | some x => exact Tr.wf_rising h.2

theorem put_any {A : PA} {n : Nat} {S0 : Nat → Sl} {fs0 : List Nat} {t0 fa c0 : Int} {tb : Nat} {ox : Option Tr} {k v : Int} {w : World} (T : TrAt w tb A n S0 t0 fs0 fa) (F : Fre n S0 fs0 c0) (hc : c0 < 999998) (ht : t0 + 2 * fs0.length ≤ 1000000) (R : RepO n S0 ox) (hk : InK k) :
    Calls Try.prog 20 #[.pointer (some ⟨tb, 0, none⟩), .pointer none, .int .i64 (rootOf S0 ox), .int .i64 k, .int .i64 v] w fun e w' => EdOk A n S0 fs0 t0 fa tb ox (valL (prs ox) k).1 (valL (prs ox) k).2 (withL (prs ox) k v) w e w' ∨ EdNo A n S0 fs0 t0 fa tb w e w' := by
  cases ox with
  | none => exact put_none T F hc ht hk
  | some x =>
    rw [withL_ins (prs_rising R)]
    exact put_some T F hc ht R.1 R.2 hk

theorem drop_any {A : PA} {n : Nat} {S0 : Nat → Sl} {fs0 : List Nat} {t0 fa c0 : Int} {tb : Nat} {ox : Option Tr} {k : Int} {w : World} (T : TrAt w tb A n S0 t0 fs0 fa) (F : Fre n S0 fs0 c0) (hc : c0 < 999998) (ht : t0 + 2 * fs0.length ≤ 1000000) (R : RepO n S0 ox) (hk : InK k) :
    Calls Try.prog 22 #[.pointer (some ⟨tb, 0, none⟩), .pointer none, .int .i64 (rootOf S0 ox), .int .i64 k] w fun e w' => ((valL (prs ox) k).2 = true ∧ (EdOk A n S0 fs0 t0 fa tb ox (valL (prs ox) k).1 (valL (prs ox) k).2 (lessL (prs ox) k) w e w' ∨ EdNo A n S0 fs0 t0 fa tb w e w')) ∨ ((valL (prs ox) k).2 = false ∧ EdErr 122 w e w') := by
  cases ox with
  | none =>
    refine (drop_none hk).mono ?_
    intro e w' h
    exact Or.inr ⟨rfl, h⟩
  | some x =>
    rw [lessL_del (prs_rising R)]
    by_cases hh : ∃ i v, (down x k).2 = .leaf i k v
    · obtain ⟨i, v, hh⟩ := hh
      refine (drop_hit T F hc ht R.1 R.2 hk hh).mono ?_
      intro e w' h
      exact Or.inl ⟨(way_old R.2 hh).2, h⟩
    · refine (drop_miss T F hc ht R.1 R.2 hk (fun i v e => hh ⟨i, v, e⟩)).mono ?_
      intro e w' h
      exact Or.inr ⟨(way_none R.2 (fun i v e => hh ⟨i, v, e⟩)).2, h⟩

end Go.Proofs.Ytacegkjobfeiiaa

