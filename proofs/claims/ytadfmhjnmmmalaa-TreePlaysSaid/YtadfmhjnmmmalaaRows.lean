/-
  No cell of these rows narrows 'for every input' (looked for: loops, veiled, ifaces, maps, wideKeys, modest, calm, conditions, laid).
  DERIVED. THE GIVEN ROWS OF THIS SEAT. 5 by the template 'for every input the law returns true; each argument reads behind the call as it read before'; 0 by the template 'total and deterministic' (their statements: YtadfmhjnmmmalaaTotals.lean).
  GIVEN WITH THE SEED: the statements are not yours to turn. If you find one false, say at which input.
  Laid BY PROGRAM, IN A SANDBOX (cutbox-rows.mjs): the forced cells as the released guide's own fill.sh prints them over the translation 0e3d07363bb50f25… (all of the seat's roots in one cut). By AI agents, Wed Nov 11 2026. No macro, syntax, notation, axiom, sorry.
-/
import Derived.Test.YtadfmhjnmmmalaaChecked
import GoSem.Claim
import GoSem.ClaimJoined
import GoSem.ClaimMapViews
import Derived.JoinedTies
import Derived.KernelRfl
namespace Go.Proofs.Ytadfmhjnmmmalaa
/- THE CELL 'sum', in the pinned program and in every row, IS THE sha256 OF THE DUMP (.gsa) THAT YtadfmhjnmmmalaaProg.lean LOADS. Nothing in Lean hashes anything: it is a label: what it is worth is what the hold of that sum in a sandbox is worth. -/
noncomputable def Try.pinned : Pinned := { name := "ytadfmhjnmmmalaa", sum := "0e3d07363bb50f25a463144bd80e437a6c4003dd559694ba0a31ea761d9f0703", checked := Try.checked }
namespace Rows
def none {H : Type} : Left H := { results := [], args := [] }

/-- 'tumblerlaw08.TreeLazy': WHATEVER THE INPUT: true; the input reads as it did. -/
def treeLazySpec : ChangeSpec := { name := "treeLazy", fn := fun _ => fun
  | [d1, d2] => { results := [.lit (.bool true)], args := [d1, d2] }
  | _ => none }
def treeLazyRow : OpenClaim := { program := "ytadfmhjnmmmalaa", sum := "0e3d07363bb50f25a463144bd80e437a6c4003dd559694ba0a31ea761d9f0703", func := "tumbler/tumblerlaw08.TreeLazy", spec := "treeLazy", unfollowed := true, recurses := true, apart := false }
def TreeLazySaid : Prop := treeLazyRow.holds Try.pinned (OpenSpec.ofChange treeLazySpec)

/-- ITS FALSE NEIGHBOUR: 'it returns false'. Refute it at one input. -/
def treeLazyWrong : ChangeSpec := { name := "treeLazy", fn := fun _ => fun
  | [d1, d2] => { results := [.lit (.bool false)], args := [d1, d2] }
  | _ => none }
def TreeLazyWrongFalsely : Prop := treeLazyRow.holds Try.pinned (OpenSpec.ofChange treeLazyWrong)

/-- 'tumblerlaw08.TreeOrder': WHATEVER THE INPUT: true; the input reads as it did. -/
def treeOrderSpec : ChangeSpec := { name := "treeOrder", fn := fun _ => fun
  | [d1, d2] => { results := [.lit (.bool true)], args := [d1, d2] }
  | _ => none }
def treeOrderRow : OpenClaim := { program := "ytadfmhjnmmmalaa", sum := "0e3d07363bb50f25a463144bd80e437a6c4003dd559694ba0a31ea761d9f0703", func := "tumbler/tumblerlaw08.TreeOrder", spec := "treeOrder", unfollowed := true, recurses := true, apart := false }
def TreeOrderSaid : Prop := treeOrderRow.holds Try.pinned (OpenSpec.ofChange treeOrderSpec)

/-- ITS FALSE NEIGHBOUR: 'it returns false'. Refute it at one input. -/
def treeOrderWrong : ChangeSpec := { name := "treeOrder", fn := fun _ => fun
  | [d1, d2] => { results := [.lit (.bool false)], args := [d1, d2] }
  | _ => none }
def TreeOrderWrongFalsely : Prop := treeOrderRow.holds Try.pinned (OpenSpec.ofChange treeOrderWrong)

/-- 'tumblerlaw08.TreeEmpties': WHATEVER THE INPUT: true; the input reads as it did. -/
def treeEmptiesSpec : ChangeSpec := { name := "treeEmpties", fn := fun _ => fun
  | [d1, d2] => { results := [.lit (.bool true)], args := [d1, d2] }
  | _ => none }
def treeEmptiesRow : OpenClaim := { program := "ytadfmhjnmmmalaa", sum := "0e3d07363bb50f25a463144bd80e437a6c4003dd559694ba0a31ea761d9f0703", func := "tumbler/tumblerlaw08.TreeEmpties", spec := "treeEmpties", unfollowed := true, recurses := true, apart := false }
def TreeEmptiesSaid : Prop := treeEmptiesRow.holds Try.pinned (OpenSpec.ofChange treeEmptiesSpec)

/-- ITS FALSE NEIGHBOUR: 'it returns false'. Refute it at one input. -/
def treeEmptiesWrong : ChangeSpec := { name := "treeEmpties", fn := fun _ => fun
  | [d1, d2] => { results := [.lit (.bool false)], args := [d1, d2] }
  | _ => none }
def TreeEmptiesWrongFalsely : Prop := treeEmptiesRow.holds Try.pinned (OpenSpec.ofChange treeEmptiesWrong)

/-- 'tumblerlaw08.TreeMisses': WHATEVER THE INPUT: true; the input reads as it did. -/
def treeMissesSpec : ChangeSpec := { name := "treeMisses", fn := fun _ => fun
  | [d] => { results := [.lit (.bool true)], args := [d] }
  | _ => none }
def treeMissesRow : OpenClaim := { program := "ytadfmhjnmmmalaa", sum := "0e3d07363bb50f25a463144bd80e437a6c4003dd559694ba0a31ea761d9f0703", func := "tumbler/tumblerlaw08.TreeMisses", spec := "treeMisses", unfollowed := true, recurses := true, apart := false }
def TreeMissesSaid : Prop := treeMissesRow.holds Try.pinned (OpenSpec.ofChange treeMissesSpec)

/-- ITS FALSE NEIGHBOUR: 'it returns false'. Refute it at one input. -/
def treeMissesWrong : ChangeSpec := { name := "treeMisses", fn := fun _ => fun
  | [d] => { results := [.lit (.bool false)], args := [d] }
  | _ => none }
def TreeMissesWrongFalsely : Prop := treeMissesRow.holds Try.pinned (OpenSpec.ofChange treeMissesWrong)

/-- 'tumblerlaw08.TreePlays': WHATEVER THE INPUT: true; the input reads as it did. -/
def treePlaysSpec : ChangeSpec := { name := "treePlays", fn := fun _ => fun
  | [d1, d2] => { results := [.lit (.bool true)], args := [d1, d2] }
  | _ => none }
def treePlaysRow : OpenClaim := { program := "ytadfmhjnmmmalaa", sum := "0e3d07363bb50f25a463144bd80e437a6c4003dd559694ba0a31ea761d9f0703", func := "tumbler/tumblerlaw08.TreePlays", spec := "treePlays", unfollowed := true, recurses := true, apart := false }
def TreePlaysSaid : Prop := treePlaysRow.holds Try.pinned (OpenSpec.ofChange treePlaysSpec)

/-- ITS FALSE NEIGHBOUR: 'it returns false'. Refute it at one input. -/
def treePlaysWrong : ChangeSpec := { name := "treePlays", fn := fun _ => fun
  | [d1, d2] => { results := [.lit (.bool false)], args := [d1, d2] }
  | _ => none }
def TreePlaysWrongFalsely : Prop := treePlaysRow.holds Try.pinned (OpenSpec.ofChange treePlaysWrong)

/- THE SECOND FORM. 'bulk': how many values and letters a reading holds, each counted each time it is reached (what is shared counts as often as it is met; a slice's spare places count too). A statement '..UptoSaid' is the law's where the arguments, and the package variables that the reading takes, are together of bulk at most 1048576: NARROWER than '..Said'. Prove '..Said' where nothing that the law and all that it calls make is longer than what came in: it says more and counts as full. Else prove '..UptoSaid'. A law counts once. -/
mutual
def uptoBulk {H : Type} : DataW H → Nat
  | .lit (.string bytes) => bytes.length + 1
  | .lit _ => 1
  | .nil => 1
  | .ptr d => uptoBulk d + 1
  | .slice elems spare => uptoBulkAll elems + uptoBulkAll spare + 1
  | .agg parts => uptoBulkAll parts + 1
  | .iface _ d => uptoBulk d + 1
  | .map entries => uptoBulkEntries entries + 1
  | .held _ => 1
def uptoBulkAll {H : Type} : List (DataW H) → Nat
  | [] => 0
  | d :: r => uptoBulk d + uptoBulkAll r
def uptoBulkEntries {H : Type} : List (Lit × DataW H) → Nat
  | [] => 0
  | x :: r => uptoBulkEntry x + uptoBulkEntries r
def uptoBulkEntry {H : Type} : Lit × DataW H → Nat
  | (.string bytes, d) => bytes.length + uptoBulk d + 1
  | (_, d) => uptoBulk d + 1
 end
def uptoSmall : (H : Type) → List (DataW H) → Bool := fun _ ds => decide (uptoBulkAll ds ≤ 1048576)
def OpenSpec.upto (s : _root_.Go.ChangeSpec) : _root_.Go.OpenSpec := { _root_.Go.OpenSpec.ofChange s with cond := some uptoSmall }

/-- 'tumblerlaw08.TreeLazy', WHERE WHAT IT READS IS OF BULK AT MOST 1048576: true; the input reads as it did. -/
def treeLazyUptoRow : OpenClaim := { program := "ytadfmhjnmmmalaa", sum := "0e3d07363bb50f25a463144bd80e437a6c4003dd559694ba0a31ea761d9f0703", func := "tumbler/tumblerlaw08.TreeLazy", spec := "treeLazy", unfollowed := true, recurses := true, apart := false, narrowed := true }
def TreeLazyUptoSaid : Prop := treeLazyUptoRow.holds Try.pinned (OpenSpec.upto treeLazySpec)

/-- 'tumblerlaw08.TreeOrder', WHERE WHAT IT READS IS OF BULK AT MOST 1048576: true; the input reads as it did. -/
def treeOrderUptoRow : OpenClaim := { program := "ytadfmhjnmmmalaa", sum := "0e3d07363bb50f25a463144bd80e437a6c4003dd559694ba0a31ea761d9f0703", func := "tumbler/tumblerlaw08.TreeOrder", spec := "treeOrder", unfollowed := true, recurses := true, apart := false, narrowed := true }
def TreeOrderUptoSaid : Prop := treeOrderUptoRow.holds Try.pinned (OpenSpec.upto treeOrderSpec)

/-- 'tumblerlaw08.TreeEmpties', WHERE WHAT IT READS IS OF BULK AT MOST 1048576: true; the input reads as it did. -/
def treeEmptiesUptoRow : OpenClaim := { program := "ytadfmhjnmmmalaa", sum := "0e3d07363bb50f25a463144bd80e437a6c4003dd559694ba0a31ea761d9f0703", func := "tumbler/tumblerlaw08.TreeEmpties", spec := "treeEmpties", unfollowed := true, recurses := true, apart := false, narrowed := true }
def TreeEmptiesUptoSaid : Prop := treeEmptiesUptoRow.holds Try.pinned (OpenSpec.upto treeEmptiesSpec)

/-- 'tumblerlaw08.TreeMisses', WHERE WHAT IT READS IS OF BULK AT MOST 1048576: true; the input reads as it did. -/
def treeMissesUptoRow : OpenClaim := { program := "ytadfmhjnmmmalaa", sum := "0e3d07363bb50f25a463144bd80e437a6c4003dd559694ba0a31ea761d9f0703", func := "tumbler/tumblerlaw08.TreeMisses", spec := "treeMisses", unfollowed := true, recurses := true, apart := false, narrowed := true }
def TreeMissesUptoSaid : Prop := treeMissesUptoRow.holds Try.pinned (OpenSpec.upto treeMissesSpec)

/-- 'tumblerlaw08.TreePlays', WHERE WHAT IT READS IS OF BULK AT MOST 1048576: true; the input reads as it did. -/
def treePlaysUptoRow : OpenClaim := { program := "ytadfmhjnmmmalaa", sum := "0e3d07363bb50f25a463144bd80e437a6c4003dd559694ba0a31ea761d9f0703", func := "tumbler/tumblerlaw08.TreePlays", spec := "treePlays", unfollowed := true, recurses := true, apart := false, narrowed := true }
def TreePlaysUptoSaid : Prop := treePlaysUptoRow.holds Try.pinned (OpenSpec.upto treePlaysSpec)

end Rows
end Go.Proofs.Ytadfmhjnmmmalaa
