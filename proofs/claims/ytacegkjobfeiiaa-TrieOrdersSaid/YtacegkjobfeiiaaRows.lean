/-
  No cell of these rows narrows 'for every input' (looked for: loops, veiled, ifaces, maps, wideKeys, modest, calm, conditions, laid).
  DERIVED. THE GIVEN ROWS OF THIS SEAT. 3 by the template 'for every input the law returns true; each argument reads behind the call as it read before'; 0 by the template 'total and deterministic' (their statements: YtacegkjobfeiiaaTotals.lean).
  GIVEN WITH THE SEED: the statements are not yours to turn. If you find one false, say at which input.
  Laid BY PROGRAM, IN A SANDBOX (cutbox-rows.mjs): the forced cells as the released guide's own fill.sh prints them over the translation c1edd03d3e87ecf6… (all of the seat's roots in one cut). By AI agents, Wed Nov 11 2026. No macro, syntax, notation, axiom, sorry.
-/
import Derived.Test.YtacegkjobfeiiaaChecked
import GoSem.Claim
import GoSem.ClaimJoined
import GoSem.ClaimMapViews
import Derived.JoinedTies
import Derived.KernelRfl
namespace Go.Proofs.Ytacegkjobfeiiaa
/- THE CELL 'sum', in the pinned program and in every row, IS THE sha256 OF THE DUMP (.gsa) THAT YtacegkjobfeiiaaProg.lean LOADS. Nothing in Lean hashes anything: it is a label: what it is worth is what the hold of that sum in a sandbox is worth. -/
noncomputable def Try.pinned : Pinned := { name := "ytacegkjobfeiiaa", sum := "c1edd03d3e87ecf655b56ee2a9cad33f4a6e6a528c7d75a70e9cc0e13f7f4467", checked := Try.checked }
namespace Rows
def none {H : Type} : Left H := { results := [], args := [] }

/-- 'skeinlaw12.TrieDiffs': WHATEVER THE INPUT: true; the input reads as it did. -/
def trieDiffsSpec : ChangeSpec := { name := "trieDiffs", fn := fun _ => fun
  | [d1, d2, d3] => { results := [.lit (.bool true)], args := [d1, d2, d3] }
  | _ => none }
def trieDiffsRow : OpenClaim := { program := "ytacegkjobfeiiaa", sum := "c1edd03d3e87ecf655b56ee2a9cad33f4a6e6a528c7d75a70e9cc0e13f7f4467", func := "skein/skeinlaw12.TrieDiffs", spec := "trieDiffs", inPlace := ["sync/atomic.StoreInt64", "sync/atomic.AddInt64", "sync/atomic.LoadInt64", "sync/atomic.CompareAndSwapInt64"], unfollowed := true, recurses := true, apart := false }
def TrieDiffsSaid : Prop := trieDiffsRow.holds Try.pinned (OpenSpec.ofChange trieDiffsSpec)

/-- ITS FALSE NEIGHBOUR: 'it returns false'. Refute it at one input. -/
def trieDiffsWrong : ChangeSpec := { name := "trieDiffs", fn := fun _ => fun
  | [d1, d2, d3] => { results := [.lit (.bool false)], args := [d1, d2, d3] }
  | _ => none }
def TrieDiffsWrongFalsely : Prop := trieDiffsRow.holds Try.pinned (OpenSpec.ofChange trieDiffsWrong)

/-- 'skeinlaw12.TrieMaps': WHATEVER THE INPUT: true; the input reads as it did. -/
def trieMapsSpec : ChangeSpec := { name := "trieMaps", fn := fun _ => fun
  | [d1, d2, d3, d4] => { results := [.lit (.bool true)], args := [d1, d2, d3, d4] }
  | _ => none }
def trieMapsRow : OpenClaim := { program := "ytacegkjobfeiiaa", sum := "c1edd03d3e87ecf655b56ee2a9cad33f4a6e6a528c7d75a70e9cc0e13f7f4467", func := "skein/skeinlaw12.TrieMaps", spec := "trieMaps", inPlace := ["sync/atomic.StoreInt64", "sync/atomic.AddInt64", "sync/atomic.LoadInt64", "sync/atomic.CompareAndSwapInt64"], unfollowed := true, recurses := true, apart := false }
def TrieMapsSaid : Prop := trieMapsRow.holds Try.pinned (OpenSpec.ofChange trieMapsSpec)

/-- ITS FALSE NEIGHBOUR: 'it returns false'. Refute it at one input. -/
def trieMapsWrong : ChangeSpec := { name := "trieMaps", fn := fun _ => fun
  | [d1, d2, d3, d4] => { results := [.lit (.bool false)], args := [d1, d2, d3, d4] }
  | _ => none }
def TrieMapsWrongFalsely : Prop := trieMapsRow.holds Try.pinned (OpenSpec.ofChange trieMapsWrong)

/-- 'skeinlaw12.TrieOrders': WHATEVER THE INPUT: true; the input reads as it did. -/
def trieOrdersSpec : ChangeSpec := { name := "trieOrders", fn := fun _ => fun
  | [d1, d2, d3] => { results := [.lit (.bool true)], args := [d1, d2, d3] }
  | _ => none }
def trieOrdersRow : OpenClaim := { program := "ytacegkjobfeiiaa", sum := "c1edd03d3e87ecf655b56ee2a9cad33f4a6e6a528c7d75a70e9cc0e13f7f4467", func := "skein/skeinlaw12.TrieOrders", spec := "trieOrders", inPlace := ["sync/atomic.StoreInt64", "sync/atomic.AddInt64", "sync/atomic.LoadInt64", "sync/atomic.CompareAndSwapInt64"], unfollowed := true, recurses := true, apart := false }
def TrieOrdersSaid : Prop := trieOrdersRow.holds Try.pinned (OpenSpec.ofChange trieOrdersSpec)

/-- ITS FALSE NEIGHBOUR: 'it returns false'. Refute it at one input. -/
def trieOrdersWrong : ChangeSpec := { name := "trieOrders", fn := fun _ => fun
  | [d1, d2, d3] => { results := [.lit (.bool false)], args := [d1, d2, d3] }
  | _ => none }
def TrieOrdersWrongFalsely : Prop := trieOrdersRow.holds Try.pinned (OpenSpec.ofChange trieOrdersWrong)

/- THE SECOND FORM. 'bulk': how many values and letters a reading holds, each counted each time it is reached (what is shared counts as often as it is met; a slice's spare places count too). A statement '..UptoSaid' is the law's where the arguments, and the package variables that the reading takes, are together of bulk at most 1048576: NARROWER than '..Said'. Prove '..Said' where nothing that the law and all that it calls make is longer than what came in: it says more and counts as full. Else prove '..UptoSaid'. A law counts once. -/
mutual
def uptoBulk {H : Type} : DataW H → Nat
  | .lit (.string bytes) => bytes.length + 1
  | .lit _ => 1
  | .nil => 1
  | .ptr d => uptoBulk d + 1
  | .slice elems spare => uptoBulkAll elems + uptoBulkAll spare + 1
  | .agg parts => uptoBulkAll parts + 1
  | .iface _ d => uptoBulk d + 1
  | .map entries => uptoBulkEntries entries + 1
  | .held _ => 1
def uptoBulkAll {H : Type} : List (DataW H) → Nat
  | [] => 0
  | d :: r => uptoBulk d + uptoBulkAll r
def uptoBulkEntries {H : Type} : List (Lit × DataW H) → Nat
  | [] => 0
  | x :: r => uptoBulkEntry x + uptoBulkEntries r
def uptoBulkEntry {H : Type} : Lit × DataW H → Nat
  | (.string bytes, d) => bytes.length + uptoBulk d + 1
  | (_, d) => uptoBulk d + 1
 end
def uptoSmall : (H : Type) → List (DataW H) → Bool := fun _ ds => decide (uptoBulkAll ds ≤ 1048576)
def OpenSpec.upto (s : _root_.Go.ChangeSpec) : _root_.Go.OpenSpec := { _root_.Go.OpenSpec.ofChange s with cond := some uptoSmall }

/-- 'skeinlaw12.TrieDiffs', WHERE WHAT IT READS IS OF BULK AT MOST 1048576: true; the input reads as it did. -/
def trieDiffsUptoRow : OpenClaim := { program := "ytacegkjobfeiiaa", sum := "c1edd03d3e87ecf655b56ee2a9cad33f4a6e6a528c7d75a70e9cc0e13f7f4467", func := "skein/skeinlaw12.TrieDiffs", spec := "trieDiffs", inPlace := ["sync/atomic.StoreInt64", "sync/atomic.AddInt64", "sync/atomic.LoadInt64", "sync/atomic.CompareAndSwapInt64"], unfollowed := true, recurses := true, apart := false, narrowed := true }
def TrieDiffsUptoSaid : Prop := trieDiffsUptoRow.holds Try.pinned (OpenSpec.upto trieDiffsSpec)

/-- 'skeinlaw12.TrieMaps', WHERE WHAT IT READS IS OF BULK AT MOST 1048576: true; the input reads as it did. -/
def trieMapsUptoRow : OpenClaim := { program := "ytacegkjobfeiiaa", sum := "c1edd03d3e87ecf655b56ee2a9cad33f4a6e6a528c7d75a70e9cc0e13f7f4467", func := "skein/skeinlaw12.TrieMaps", spec := "trieMaps", inPlace := ["sync/atomic.StoreInt64", "sync/atomic.AddInt64", "sync/atomic.LoadInt64", "sync/atomic.CompareAndSwapInt64"], unfollowed := true, recurses := true, apart := false, narrowed := true }
def TrieMapsUptoSaid : Prop := trieMapsUptoRow.holds Try.pinned (OpenSpec.upto trieMapsSpec)

/-- 'skeinlaw12.TrieOrders', WHERE WHAT IT READS IS OF BULK AT MOST 1048576: true; the input reads as it did. -/
def trieOrdersUptoRow : OpenClaim := { program := "ytacegkjobfeiiaa", sum := "c1edd03d3e87ecf655b56ee2a9cad33f4a6e6a528c7d75a70e9cc0e13f7f4467", func := "skein/skeinlaw12.TrieOrders", spec := "trieOrders", inPlace := ["sync/atomic.StoreInt64", "sync/atomic.AddInt64", "sync/atomic.LoadInt64", "sync/atomic.CompareAndSwapInt64"], unfollowed := true, recurses := true, apart := false, narrowed := true }
def TrieOrdersUptoSaid : Prop := trieOrdersUptoRow.holds Try.pinned (OpenSpec.upto trieOrdersSpec)

end Rows
end Go.Proofs.Ytacegkjobfeiiaa
