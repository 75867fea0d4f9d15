/-
  No cell of these rows narrows 'for every input' (looked for: loops, veiled, ifaces, maps, wideKeys, modest, calm, conditions, laid).
  DERIVED. THE GIVEN ROWS OF THIS SEAT. 8 by the template 'for every input the law returns true; each argument reads behind the call as it read before'; 0 by the template 'total and deterministic' (their statements: YtlcmjpligaiadaaTotals.lean).
  GIVEN WITH THE SEED: the statements are not yours to turn. If you find one false, say at which input.
  Laid BY PROGRAM, IN A SANDBOX (cutbox-rows.mjs): the forced cells as the released guide's own fill.sh prints them over the translation ead54cd8545b3341… (all of the seat's roots in one cut). By AI agents, Wed Nov 11 2026. No macro, syntax, notation, axiom, sorry.
-/
import Derived.Test.YtlcmjpligaiadaaChecked
import GoSem.Claim
import GoSem.ClaimJoined
import GoSem.ClaimMapViews
import Derived.JoinedTies
import Derived.KernelRfl
namespace Go.Proofs.Ytlcmjpligaiadaa
/- THE CELL 'sum', in the pinned program and in every row, IS THE sha256 OF THE DUMP (.gsa) THAT YtlcmjpligaiadaaProg.lean LOADS. Nothing in Lean hashes anything: it is a label: what it is worth is what the hold of that sum in a sandbox is worth. -/
noncomputable def Try.pinned : Pinned := { name := "ytlcmjpligaiadaa", sum := "ead54cd8545b334141cb92c02004109d561750968ddbafbab3a515e5f256747c", checked := Try.checked }
namespace Rows
def none {H : Type} : Left H := { results := [], args := [] }

/-- 'tumblerlaw21.SnapLays': WHATEVER THE INPUT: true; the input reads as it did. -/
def snapLaysSpec : ChangeSpec := { name := "snapLays", fn := fun _ => fun
  | [d] => { results := [.lit (.bool true)], args := [d] }
  | _ => none }
def snapLaysRow : OpenClaim := { program := "ytlcmjpligaiadaa", sum := "ead54cd8545b334141cb92c02004109d561750968ddbafbab3a515e5f256747c", func := "tumbler/tumblerlaw21.SnapLays", spec := "snapLays", unfollowed := true, recurses := true, plainKeys := false, apart := false }
def SnapLaysSaid : Prop := snapLaysRow.holds Try.pinned (OpenSpec.ofChange snapLaysSpec)

/-- ITS FALSE NEIGHBOUR: 'it returns false'. Refute it at one input. -/
def snapLaysWrong : ChangeSpec := { name := "snapLays", fn := fun _ => fun
  | [d] => { results := [.lit (.bool false)], args := [d] }
  | _ => none }
def SnapLaysWrongFalsely : Prop := snapLaysRow.holds Try.pinned (OpenSpec.ofChange snapLaysWrong)

/-- 'tumblerlaw21.SnapCuts': WHATEVER THE INPUT: true; the input reads as it did. -/
def snapCutsSpec : ChangeSpec := { name := "snapCuts", fn := fun _ => fun
  | [d1, d2, d3, d4] => { results := [.lit (.bool true)], args := [d1, d2, d3, d4] }
  | _ => none }
def snapCutsRow : OpenClaim := { program := "ytlcmjpligaiadaa", sum := "ead54cd8545b334141cb92c02004109d561750968ddbafbab3a515e5f256747c", func := "tumbler/tumblerlaw21.SnapCuts", spec := "snapCuts", unfollowed := true, recurses := true, plainKeys := false, apart := false }
def SnapCutsSaid : Prop := snapCutsRow.holds Try.pinned (OpenSpec.ofChange snapCutsSpec)

/-- ITS FALSE NEIGHBOUR: 'it returns false'. Refute it at one input. -/
def snapCutsWrong : ChangeSpec := { name := "snapCuts", fn := fun _ => fun
  | [d1, d2, d3, d4] => { results := [.lit (.bool false)], args := [d1, d2, d3, d4] }
  | _ => none }
def SnapCutsWrongFalsely : Prop := snapCutsRow.holds Try.pinned (OpenSpec.ofChange snapCutsWrong)

/-- 'tumblerlaw04.PairsWithout': WHATEVER THE INPUT: true; the input reads as it did. -/
def pairsWithoutSpec : ChangeSpec := { name := "pairsWithout", fn := fun _ => fun
  | [d1, d2] => { results := [.lit (.bool true)], args := [d1, d2] }
  | _ => none }
def pairsWithoutRow : OpenClaim := { program := "ytlcmjpligaiadaa", sum := "ead54cd8545b334141cb92c02004109d561750968ddbafbab3a515e5f256747c", func := "tumbler/tumblerlaw04.PairsWithout", spec := "pairsWithout", inPlace := ["slices.overlaps[tumbler/api.Pair]"], unfollowed := true, recurses := true, plainKeys := false, apart := false }
def PairsWithoutSaid : Prop := pairsWithoutRow.holds Try.pinned (OpenSpec.ofChange pairsWithoutSpec)

/-- ITS FALSE NEIGHBOUR: 'it returns false'. Refute it at one input. -/
def pairsWithoutWrong : ChangeSpec := { name := "pairsWithout", fn := fun _ => fun
  | [d1, d2] => { results := [.lit (.bool false)], args := [d1, d2] }
  | _ => none }
def PairsWithoutWrongFalsely : Prop := pairsWithoutRow.holds Try.pinned (OpenSpec.ofChange pairsWithoutWrong)

/-- 'tumblerlaw04.PairsOrder': WHATEVER THE INPUT: true; the input reads as it did. -/
def pairsOrderSpec : ChangeSpec := { name := "pairsOrder", fn := fun _ => fun
  | [d1, d2] => { results := [.lit (.bool true)], args := [d1, d2] }
  | _ => none }
def pairsOrderRow : OpenClaim := { program := "ytlcmjpligaiadaa", sum := "ead54cd8545b334141cb92c02004109d561750968ddbafbab3a515e5f256747c", func := "tumbler/tumblerlaw04.PairsOrder", spec := "pairsOrder", inPlace := ["slices.overlaps[tumbler/api.Pair]"], unfollowed := true, recurses := true, plainKeys := false, apart := false }
def PairsOrderSaid : Prop := pairsOrderRow.holds Try.pinned (OpenSpec.ofChange pairsOrderSpec)

/-- ITS FALSE NEIGHBOUR: 'it returns false'. Refute it at one input. -/
def pairsOrderWrong : ChangeSpec := { name := "pairsOrder", fn := fun _ => fun
  | [d1, d2] => { results := [.lit (.bool false)], args := [d1, d2] }
  | _ => none }
def PairsOrderWrongFalsely : Prop := pairsOrderRow.holds Try.pinned (OpenSpec.ofChange pairsOrderWrong)

/-- 'tumblerlaw19.EventOnce': WHATEVER THE INPUT: true; the input reads as it did. -/
def eventOnceSpec : ChangeSpec := { name := "eventOnce", fn := fun _ => fun
  | [d1, d2, d3] => { results := [.lit (.bool true)], args := [d1, d2, d3] }
  | _ => none }
def eventOnceRow : OpenClaim := { program := "ytlcmjpligaiadaa", sum := "ead54cd8545b334141cb92c02004109d561750968ddbafbab3a515e5f256747c", func := "tumbler/tumblerlaw19.EventOnce", spec := "eventOnce", inPlace := ["slices.overlaps[tumbler/api.Pair]"], unfollowed := true, recurses := true, plainKeys := false, apart := false }
def EventOnceSaid : Prop := eventOnceRow.holds Try.pinned (OpenSpec.ofChange eventOnceSpec)

/-- ITS FALSE NEIGHBOUR: 'it returns false'. Refute it at one input. -/
def eventOnceWrong : ChangeSpec := { name := "eventOnce", fn := fun _ => fun
  | [d1, d2, d3] => { results := [.lit (.bool false)], args := [d1, d2, d3] }
  | _ => none }
def EventOnceWrongFalsely : Prop := eventOnceRow.holds Try.pinned (OpenSpec.ofChange eventOnceWrong)

/-- 'tumblerlaw04.PairsPlay': WHATEVER THE INPUT: true; the input reads as it did. -/
def pairsPlaySpec : ChangeSpec := { name := "pairsPlay", fn := fun _ => fun
  | [d1, d2] => { results := [.lit (.bool true)], args := [d1, d2] }
  | _ => none }
def pairsPlayRow : OpenClaim := { program := "ytlcmjpligaiadaa", sum := "ead54cd8545b334141cb92c02004109d561750968ddbafbab3a515e5f256747c", func := "tumbler/tumblerlaw04.PairsPlay", spec := "pairsPlay", inPlace := ["slices.overlaps[tumbler/api.Pair]"], unfollowed := true, recurses := true, plainKeys := false, apart := false }
def PairsPlaySaid : Prop := pairsPlayRow.holds Try.pinned (OpenSpec.ofChange pairsPlaySpec)

/-- ITS FALSE NEIGHBOUR: 'it returns false'. Refute it at one input. -/
def pairsPlayWrong : ChangeSpec := { name := "pairsPlay", fn := fun _ => fun
  | [d1, d2] => { results := [.lit (.bool false)], args := [d1, d2] }
  | _ => none }
def PairsPlayWrongFalsely : Prop := pairsPlayRow.holds Try.pinned (OpenSpec.ofChange pairsPlayWrong)

/-- 'tumblerlaw19.EventDiffs': WHATEVER THE INPUT: true; the input reads as it did. -/
def eventDiffsSpec : ChangeSpec := { name := "eventDiffs", fn := fun _ => fun
  | [d1, d2] => { results := [.lit (.bool true)], args := [d1, d2] }
  | _ => none }
def eventDiffsRow : OpenClaim := { program := "ytlcmjpligaiadaa", sum := "ead54cd8545b334141cb92c02004109d561750968ddbafbab3a515e5f256747c", func := "tumbler/tumblerlaw19.EventDiffs", spec := "eventDiffs", inPlace := ["slices.overlaps[tumbler/api.Pair]"], unfollowed := true, recurses := true, plainKeys := false, apart := false }
def EventDiffsSaid : Prop := eventDiffsRow.holds Try.pinned (OpenSpec.ofChange eventDiffsSpec)

/-- ITS FALSE NEIGHBOUR: 'it returns false'. Refute it at one input. -/
def eventDiffsWrong : ChangeSpec := { name := "eventDiffs", fn := fun _ => fun
  | [d1, d2] => { results := [.lit (.bool false)], args := [d1, d2] }
  | _ => none }
def EventDiffsWrongFalsely : Prop := eventDiffsRow.holds Try.pinned (OpenSpec.ofChange eventDiffsWrong)

/-- 'tumblerlaw19.EventPlays': WHATEVER THE INPUT: true; the input reads as it did. -/
def eventPlaysSpec : ChangeSpec := { name := "eventPlays", fn := fun _ => fun
  | [d1, d2] => { results := [.lit (.bool true)], args := [d1, d2] }
  | _ => none }
def eventPlaysRow : OpenClaim := { program := "ytlcmjpligaiadaa", sum := "ead54cd8545b334141cb92c02004109d561750968ddbafbab3a515e5f256747c", func := "tumbler/tumblerlaw19.EventPlays", spec := "eventPlays", inPlace := ["slices.overlaps[tumbler/api.Pair]"], unfollowed := true, recurses := true, plainKeys := false, apart := false }
def EventPlaysSaid : Prop := eventPlaysRow.holds Try.pinned (OpenSpec.ofChange eventPlaysSpec)

/-- ITS FALSE NEIGHBOUR: 'it returns false'. Refute it at one input. -/
def eventPlaysWrong : ChangeSpec := { name := "eventPlays", fn := fun _ => fun
  | [d1, d2] => { results := [.lit (.bool false)], args := [d1, d2] }
  | _ => none }
def EventPlaysWrongFalsely : Prop := eventPlaysRow.holds Try.pinned (OpenSpec.ofChange eventPlaysWrong)

/- THE SECOND FORM. 'bulk': how many values and letters a reading holds, each counted each time it is reached (what is shared counts as often as it is met; a slice's spare places count too). A statement '..UptoSaid' is the law's where the arguments, and the package variables that the reading takes, are together of bulk at most 1048576: NARROWER than '..Said'. Prove '..Said' where nothing that the law and all that it calls make is longer than what came in: it says more and counts as full. Else prove '..UptoSaid'. A law counts once. -/
mutual
def uptoBulk {H : Type} : DataW H → Nat
  | .lit (.string bytes) => bytes.length + 1
  | .lit _ => 1
  | .nil => 1
  | .ptr d => uptoBulk d + 1
  | .slice elems spare => uptoBulkAll elems + uptoBulkAll spare + 1
  | .agg parts => uptoBulkAll parts + 1
  | .iface _ d => uptoBulk d + 1
  | .map entries => uptoBulkEntries entries + 1
  | .held _ => 1
def uptoBulkAll {H : Type} : List (DataW H) → Nat
  | [] => 0
  | d :: r => uptoBulk d + uptoBulkAll r
def uptoBulkEntries {H : Type} : List (Lit × DataW H) → Nat
  | [] => 0
  | x :: r => uptoBulkEntry x + uptoBulkEntries r
def uptoBulkEntry {H : Type} : Lit × DataW H → Nat
  | (.string bytes, d) => bytes.length + uptoBulk d + 1
  | (_, d) => uptoBulk d + 1
 end
def uptoSmall : (H : Type) → List (DataW H) → Bool := fun _ ds => decide (uptoBulkAll ds ≤ 1048576)
def OpenSpec.upto (s : _root_.Go.ChangeSpec) : _root_.Go.OpenSpec := { _root_.Go.OpenSpec.ofChange s with cond := some uptoSmall }

/-- 'tumblerlaw21.SnapLays', WHERE WHAT IT READS IS OF BULK AT MOST 1048576: true; the input reads as it did. -/
def snapLaysUptoRow : OpenClaim := { program := "ytlcmjpligaiadaa", sum := "ead54cd8545b334141cb92c02004109d561750968ddbafbab3a515e5f256747c", func := "tumbler/tumblerlaw21.SnapLays", spec := "snapLays", unfollowed := true, recurses := true, plainKeys := false, apart := false, narrowed := true }
def SnapLaysUptoSaid : Prop := snapLaysUptoRow.holds Try.pinned (OpenSpec.upto snapLaysSpec)

/-- 'tumblerlaw21.SnapCuts', WHERE WHAT IT READS IS OF BULK AT MOST 1048576: true; the input reads as it did. -/
def snapCutsUptoRow : OpenClaim := { program := "ytlcmjpligaiadaa", sum := "ead54cd8545b334141cb92c02004109d561750968ddbafbab3a515e5f256747c", func := "tumbler/tumblerlaw21.SnapCuts", spec := "snapCuts", unfollowed := true, recurses := true, plainKeys := false, apart := false, narrowed := true }
def SnapCutsUptoSaid : Prop := snapCutsUptoRow.holds Try.pinned (OpenSpec.upto snapCutsSpec)

/-- 'tumblerlaw04.PairsWithout', WHERE WHAT IT READS IS OF BULK AT MOST 1048576: true; the input reads as it did. -/
def pairsWithoutUptoRow : OpenClaim := { program := "ytlcmjpligaiadaa", sum := "ead54cd8545b334141cb92c02004109d561750968ddbafbab3a515e5f256747c", func := "tumbler/tumblerlaw04.PairsWithout", spec := "pairsWithout", inPlace := ["slices.overlaps[tumbler/api.Pair]"], unfollowed := true, recurses := true, plainKeys := false, apart := false, narrowed := true }
def PairsWithoutUptoSaid : Prop := pairsWithoutUptoRow.holds Try.pinned (OpenSpec.upto pairsWithoutSpec)

/-- 'tumblerlaw04.PairsOrder', WHERE WHAT IT READS IS OF BULK AT MOST 1048576: true; the input reads as it did. -/
def pairsOrderUptoRow : OpenClaim := { program := "ytlcmjpligaiadaa", sum := "ead54cd8545b334141cb92c02004109d561750968ddbafbab3a515e5f256747c", func := "tumbler/tumblerlaw04.PairsOrder", spec := "pairsOrder", inPlace := ["slices.overlaps[tumbler/api.Pair]"], unfollowed := true, recurses := true, plainKeys := false, apart := false, narrowed := true }
def PairsOrderUptoSaid : Prop := pairsOrderUptoRow.holds Try.pinned (OpenSpec.upto pairsOrderSpec)

/-- 'tumblerlaw19.EventOnce', WHERE WHAT IT READS IS OF BULK AT MOST 1048576: true; the input reads as it did. -/
def eventOnceUptoRow : OpenClaim := { program := "ytlcmjpligaiadaa", sum := "ead54cd8545b334141cb92c02004109d561750968ddbafbab3a515e5f256747c", func := "tumbler/tumblerlaw19.EventOnce", spec := "eventOnce", inPlace := ["slices.overlaps[tumbler/api.Pair]"], unfollowed := true, recurses := true, plainKeys := false, apart := false, narrowed := true }
def EventOnceUptoSaid : Prop := eventOnceUptoRow.holds Try.pinned (OpenSpec.upto eventOnceSpec)

/-- 'tumblerlaw04.PairsPlay', WHERE WHAT IT READS IS OF BULK AT MOST 1048576: true; the input reads as it did. -/
def pairsPlayUptoRow : OpenClaim := { program := "ytlcmjpligaiadaa", sum := "ead54cd8545b334141cb92c02004109d561750968ddbafbab3a515e5f256747c", func := "tumbler/tumblerlaw04.PairsPlay", spec := "pairsPlay", inPlace := ["slices.overlaps[tumbler/api.Pair]"], unfollowed := true, recurses := true, plainKeys := false, apart := false, narrowed := true }
def PairsPlayUptoSaid : Prop := pairsPlayUptoRow.holds Try.pinned (OpenSpec.upto pairsPlaySpec)

/-- 'tumblerlaw19.EventDiffs', WHERE WHAT IT READS IS OF BULK AT MOST 1048576: true; the input reads as it did. -/
def eventDiffsUptoRow : OpenClaim := { program := "ytlcmjpligaiadaa", sum := "ead54cd8545b334141cb92c02004109d561750968ddbafbab3a515e5f256747c", func := "tumbler/tumblerlaw19.EventDiffs", spec := "eventDiffs", inPlace := ["slices.overlaps[tumbler/api.Pair]"], unfollowed := true, recurses := true, plainKeys := false, apart := false, narrowed := true }
def EventDiffsUptoSaid : Prop := eventDiffsUptoRow.holds Try.pinned (OpenSpec.upto eventDiffsSpec)

/-- 'tumblerlaw19.EventPlays', WHERE WHAT IT READS IS OF BULK AT MOST 1048576: true; the input reads as it did. -/
def eventPlaysUptoRow : OpenClaim := { program := "ytlcmjpligaiadaa", sum := "ead54cd8545b334141cb92c02004109d561750968ddbafbab3a515e5f256747c", func := "tumbler/tumblerlaw19.EventPlays", spec := "eventPlays", inPlace := ["slices.overlaps[tumbler/api.Pair]"], unfollowed := true, recurses := true, plainKeys := false, apart := false, narrowed := true }
def EventPlaysUptoSaid : Prop := eventPlaysUptoRow.holds Try.pinned (OpenSpec.upto eventPlaysSpec)

end Rows
end Go.Proofs.Ytlcmjpligaiadaa
