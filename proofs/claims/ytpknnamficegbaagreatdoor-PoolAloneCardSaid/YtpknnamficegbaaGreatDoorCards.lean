/-
  DERIVED. GIVEN WITH THE SEED: THE CARDS: each row of YtpknnamficegbaaGreatDoorRows.lean that lists a variable, with what it lists TIED to the program's text (the seventh form; the later family's looks); each row that meets fmt, with fmt's text TOLD by the authors' own Lean function (tested against real Go, not proved from fmt's source: count such statements apart). THE CARD IS WHAT COUNTS. Prove the row's statement (the work); the ties are given (YtpknnamficegbaaGreatDoorTie.lean); close each card by the builder's one call (the guide's Derived/Test/ToyasCard.lean, 'card_holds'). Laid BY PROGRAM, IN A SANDBOX (cutbox-door.mjs). By AI agents, Wed Nov 11 2026. No macro, syntax, notation, axiom, sorry.
-/
import Derived.Test.YtpknnamficegbaaGreatDoorRows
import GoSem.ClaimSeven
namespace Go.Proofs.YtpknnamficegbaaGreatDoor
namespace Rows

/-- THE TIED CARD OF 'skeinlaw10.PoolAlone'. -/
def poolAloneCard : Claim7 := { stood := { row := poolAloneRow, standIns := [], harness := (true, "32c1a0ba286a18b112cc31431e9937bef10d3d457f86a9ecff60687229aa37b5"), looks := false }, kinds := [], alts := [], laidByText := true, laidKinds := [.data, .data, .data], laidTests := true, laidLooks := .later }
def PoolAloneCardSaid : Prop := Claim7.holds Tryz.pinned (.plain (OpenSpec.ofChange poolAloneSpec)) poolAloneCard

/-- THE SECOND FORM's CARD OF 'skeinlaw10.PoolAlone'. -/
def poolAloneUptoCard : Claim7 := { stood := { row := poolAloneUptoRow, standIns := [], harness := (true, "32c1a0ba286a18b112cc31431e9937bef10d3d457f86a9ecff60687229aa37b5"), looks := false }, kinds := [], alts := [], laidByText := true, laidKinds := [.data, .data, .data], laidTests := true, laidLooks := .later }
def PoolAloneUptoCardSaid : Prop := Claim7.holds Tryz.pinned (.plain (OpenSpec.upto poolAloneSpec)) poolAloneUptoCard
end Rows
end Go.Proofs.YtpknnamficegbaaGreatDoor
