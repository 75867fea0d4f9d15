/-
  No cell of these rows narrows 'for every input' (looked for: loops, veiled, ifaces, maps, wideKeys, modest, calm, conditions, laid).
  DERIVED. THE GIVEN ROWS OF THIS SEAT. 8 by the template 'for every input the law returns true; each argument reads behind the call as it read before'; 0 by the template 'total and deterministic' (their statements: YtafljpfephomoaaTotals.lean).
  GIVEN WITH THE SEED: the statements are not yours to turn. If you find one false, say at which input.
  Laid BY PROGRAM, IN A SANDBOX (cutbox-rows.mjs): the forced cells as the released guide's own fill.sh prints them over the translation 84d1ca42725ec9db… (all of the seat's roots in one cut). By AI agents, Wed Nov 11 2026. No macro, syntax, notation, axiom, sorry.
-/
import Derived.Test.YtafljpfephomoaaChecked
import GoSem.Claim
import GoSem.ClaimJoined
import GoSem.ClaimMapViews
import Derived.JoinedTies
import Derived.KernelRfl
namespace Go.Proofs.Ytafljpfephomoaa
/- THE CELL 'sum', in the pinned program and in every row, IS THE sha256 OF THE DUMP (.gsa) THAT YtafljpfephomoaaProg.lean LOADS. Nothing in Lean hashes anything: it is a label: what it is worth is what the hold of that sum in a sandbox is worth. -/
noncomputable def Try.pinned : Pinned := { name := "ytafljpfephomoaa", sum := "84d1ca42725ec9dbe24cff059d97e1dd40ff94da80954b240a5fe5c57ea6f23d", checked := Try.checked }
namespace Rows
def none {H : Type} : Left H := { results := [], args := [] }

/-- 'tumblerlaw17.IslandGrows': WHATEVER THE INPUT: true; the input reads as it did. -/
def islandGrowsSpec : ChangeSpec := { name := "islandGrows", fn := fun _ => fun
  | [d1, d2, d3, d4] => { results := [.lit (.bool true)], args := [d1, d2, d3, d4] }
  | _ => none }
def islandGrowsRow : OpenClaim := { program := "ytafljpfephomoaa", sum := "84d1ca42725ec9dbe24cff059d97e1dd40ff94da80954b240a5fe5c57ea6f23d", func := "tumbler/tumblerlaw17.IslandGrows", spec := "islandGrows", unfollowed := true, recurses := true, apart := false }
def IslandGrowsSaid : Prop := islandGrowsRow.holds Try.pinned (OpenSpec.ofChange islandGrowsSpec)

/-- ITS FALSE NEIGHBOUR: 'it returns false'. Refute it at one input. -/
def islandGrowsWrong : ChangeSpec := { name := "islandGrows", fn := fun _ => fun
  | [d1, d2, d3, d4] => { results := [.lit (.bool false)], args := [d1, d2, d3, d4] }
  | _ => none }
def IslandGrowsWrongFalsely : Prop := islandGrowsRow.holds Try.pinned (OpenSpec.ofChange islandGrowsWrong)

/-- 'tumblerlaw03.PoolOnce': WHATEVER THE INPUT: true; the input reads as it did. -/
def poolOnceSpec : ChangeSpec := { name := "poolOnce", fn := fun _ => fun
  | [d1, d2] => { results := [.lit (.bool true)], args := [d1, d2] }
  | _ => none }
def poolOnceRow : OpenClaim := { program := "ytafljpfephomoaa", sum := "84d1ca42725ec9dbe24cff059d97e1dd40ff94da80954b240a5fe5c57ea6f23d", func := "tumbler/tumblerlaw03.PoolOnce", spec := "poolOnce", unfollowed := true, recurses := true, apart := false }
def PoolOnceSaid : Prop := poolOnceRow.holds Try.pinned (OpenSpec.ofChange poolOnceSpec)

/-- ITS FALSE NEIGHBOUR: 'it returns false'. Refute it at one input. -/
def poolOnceWrong : ChangeSpec := { name := "poolOnce", fn := fun _ => fun
  | [d1, d2] => { results := [.lit (.bool false)], args := [d1, d2] }
  | _ => none }
def PoolOnceWrongFalsely : Prop := poolOnceRow.holds Try.pinned (OpenSpec.ofChange poolOnceWrong)

/-- 'tumblerlaw17.IslandTells': WHATEVER THE INPUT: true; the input reads as it did. -/
def islandTellsSpec : ChangeSpec := { name := "islandTells", fn := fun _ => fun
  | [d1, d2, d3, d4, d5] => { results := [.lit (.bool true)], args := [d1, d2, d3, d4, d5] }
  | _ => none }
def islandTellsRow : OpenClaim := { program := "ytafljpfephomoaa", sum := "84d1ca42725ec9dbe24cff059d97e1dd40ff94da80954b240a5fe5c57ea6f23d", func := "tumbler/tumblerlaw17.IslandTells", spec := "islandTells", unfollowed := true, recurses := true, apart := false }
def IslandTellsSaid : Prop := islandTellsRow.holds Try.pinned (OpenSpec.ofChange islandTellsSpec)

/-- ITS FALSE NEIGHBOUR: 'it returns false'. Refute it at one input. -/
def islandTellsWrong : ChangeSpec := { name := "islandTells", fn := fun _ => fun
  | [d1, d2, d3, d4, d5] => { results := [.lit (.bool false)], args := [d1, d2, d3, d4, d5] }
  | _ => none }
def IslandTellsWrongFalsely : Prop := islandTellsRow.holds Try.pinned (OpenSpec.ofChange islandTellsWrong)

/-- 'tumblerlaw17.IslandSame': WHATEVER THE INPUT: true; the input reads as it did. -/
def islandSameSpec : ChangeSpec := { name := "islandSame", fn := fun _ => fun
  | [d1, d2, d3] => { results := [.lit (.bool true)], args := [d1, d2, d3] }
  | _ => none }
def islandSameRow : OpenClaim := { program := "ytafljpfephomoaa", sum := "84d1ca42725ec9dbe24cff059d97e1dd40ff94da80954b240a5fe5c57ea6f23d", func := "tumbler/tumblerlaw17.IslandSame", spec := "islandSame", unfollowed := true, recurses := true, apart := false }
def IslandSameSaid : Prop := islandSameRow.holds Try.pinned (OpenSpec.ofChange islandSameSpec)

/-- ITS FALSE NEIGHBOUR: 'it returns false'. Refute it at one input. -/
def islandSameWrong : ChangeSpec := { name := "islandSame", fn := fun _ => fun
  | [d1, d2, d3] => { results := [.lit (.bool false)], args := [d1, d2, d3] }
  | _ => none }
def IslandSameWrongFalsely : Prop := islandSameRow.holds Try.pinned (OpenSpec.ofChange islandSameWrong)

/-- 'tumblerlaw17.IslandRests': WHATEVER THE INPUT: true; the input reads as it did. -/
def islandRestsSpec : ChangeSpec := { name := "islandRests", fn := fun _ => fun
  | [d1, d2, d3] => { results := [.lit (.bool true)], args := [d1, d2, d3] }
  | _ => none }
def islandRestsRow : OpenClaim := { program := "ytafljpfephomoaa", sum := "84d1ca42725ec9dbe24cff059d97e1dd40ff94da80954b240a5fe5c57ea6f23d", func := "tumbler/tumblerlaw17.IslandRests", spec := "islandRests", unfollowed := true, recurses := true, apart := false }
def IslandRestsSaid : Prop := islandRestsRow.holds Try.pinned (OpenSpec.ofChange islandRestsSpec)

/-- ITS FALSE NEIGHBOUR: 'it returns false'. Refute it at one input. -/
def islandRestsWrong : ChangeSpec := { name := "islandRests", fn := fun _ => fun
  | [d1, d2, d3] => { results := [.lit (.bool false)], args := [d1, d2, d3] }
  | _ => none }
def IslandRestsWrongFalsely : Prop := islandRestsRow.holds Try.pinned (OpenSpec.ofChange islandRestsWrong)

/-- 'tumblerlaw03.PoolGoes': WHATEVER THE INPUT: true; the input reads as it did. -/
def poolGoesSpec : ChangeSpec := { name := "poolGoes", fn := fun _ => fun
  | [d1, d2] => { results := [.lit (.bool true)], args := [d1, d2] }
  | _ => none }
def poolGoesRow : OpenClaim := { program := "ytafljpfephomoaa", sum := "84d1ca42725ec9dbe24cff059d97e1dd40ff94da80954b240a5fe5c57ea6f23d", func := "tumbler/tumblerlaw03.PoolGoes", spec := "poolGoes", unfollowed := true, recurses := true, apart := false }
def PoolGoesSaid : Prop := poolGoesRow.holds Try.pinned (OpenSpec.ofChange poolGoesSpec)

/-- ITS FALSE NEIGHBOUR: 'it returns false'. Refute it at one input. -/
def poolGoesWrong : ChangeSpec := { name := "poolGoes", fn := fun _ => fun
  | [d1, d2] => { results := [.lit (.bool false)], args := [d1, d2] }
  | _ => none }
def PoolGoesWrongFalsely : Prop := poolGoesRow.holds Try.pinned (OpenSpec.ofChange poolGoesWrong)

/-- 'tumblerlaw03.PoolLays': WHATEVER THE INPUT: true; the input reads as it did. -/
def poolLaysSpec : ChangeSpec := { name := "poolLays", fn := fun _ => fun
  | [d1, d2, d3] => { results := [.lit (.bool true)], args := [d1, d2, d3] }
  | _ => none }
def poolLaysRow : OpenClaim := { program := "ytafljpfephomoaa", sum := "84d1ca42725ec9dbe24cff059d97e1dd40ff94da80954b240a5fe5c57ea6f23d", func := "tumbler/tumblerlaw03.PoolLays", spec := "poolLays", unfollowed := true, recurses := true, apart := false }
def PoolLaysSaid : Prop := poolLaysRow.holds Try.pinned (OpenSpec.ofChange poolLaysSpec)

/-- ITS FALSE NEIGHBOUR: 'it returns false'. Refute it at one input. -/
def poolLaysWrong : ChangeSpec := { name := "poolLays", fn := fun _ => fun
  | [d1, d2, d3] => { results := [.lit (.bool false)], args := [d1, d2, d3] }
  | _ => none }
def PoolLaysWrongFalsely : Prop := poolLaysRow.holds Try.pinned (OpenSpec.ofChange poolLaysWrong)

/-- 'tumblerlaw03.PoolPlays': WHATEVER THE INPUT: true; the input reads as it did. -/
def poolPlaysSpec : ChangeSpec := { name := "poolPlays", fn := fun _ => fun
  | [d1, d2] => { results := [.lit (.bool true)], args := [d1, d2] }
  | _ => none }
def poolPlaysRow : OpenClaim := { program := "ytafljpfephomoaa", sum := "84d1ca42725ec9dbe24cff059d97e1dd40ff94da80954b240a5fe5c57ea6f23d", func := "tumbler/tumblerlaw03.PoolPlays", spec := "poolPlays", unfollowed := true, recurses := true, apart := false }
def PoolPlaysSaid : Prop := poolPlaysRow.holds Try.pinned (OpenSpec.ofChange poolPlaysSpec)

/-- ITS FALSE NEIGHBOUR: 'it returns false'. Refute it at one input. -/
def poolPlaysWrong : ChangeSpec := { name := "poolPlays", fn := fun _ => fun
  | [d1, d2] => { results := [.lit (.bool false)], args := [d1, d2] }
  | _ => none }
def PoolPlaysWrongFalsely : Prop := poolPlaysRow.holds Try.pinned (OpenSpec.ofChange poolPlaysWrong)

/- THE SECOND FORM. 'bulk': how many values and letters a reading holds, each counted each time it is reached (what is shared counts as often as it is met; a slice's spare places count too). A statement '..UptoSaid' is the law's where the arguments, and the package variables that the reading takes, are together of bulk at most 1048576: NARROWER than '..Said'. Prove '..Said' where nothing that the law and all that it calls make is longer than what came in: it says more and counts as full. Else prove '..UptoSaid'. A law counts once. -/
mutual
def uptoBulk {H : Type} : DataW H → Nat
  | .lit (.string bytes) => bytes.length + 1
  | .lit _ => 1
  | .nil => 1
  | .ptr d => uptoBulk d + 1
  | .slice elems spare => uptoBulkAll elems + uptoBulkAll spare + 1
  | .agg parts => uptoBulkAll parts + 1
  | .iface _ d => uptoBulk d + 1
  | .map entries => uptoBulkEntries entries + 1
  | .held _ => 1
def uptoBulkAll {H : Type} : List (DataW H) → Nat
  | [] => 0
  | d :: r => uptoBulk d + uptoBulkAll r
def uptoBulkEntries {H : Type} : List (Lit × DataW H) → Nat
  | [] => 0
  | x :: r => uptoBulkEntry x + uptoBulkEntries r
def uptoBulkEntry {H : Type} : Lit × DataW H → Nat
  | (.string bytes, d) => bytes.length + uptoBulk d + 1
  | (_, d) => uptoBulk d + 1
 end
def uptoSmall : (H : Type) → List (DataW H) → Bool := fun _ ds => decide (uptoBulkAll ds ≤ 1048576)
def OpenSpec.upto (s : _root_.Go.ChangeSpec) : _root_.Go.OpenSpec := { _root_.Go.OpenSpec.ofChange s with cond := some uptoSmall }

/-- 'tumblerlaw17.IslandGrows', WHERE WHAT IT READS IS OF BULK AT MOST 1048576: true; the input reads as it did. -/
def islandGrowsUptoRow : OpenClaim := { program := "ytafljpfephomoaa", sum := "84d1ca42725ec9dbe24cff059d97e1dd40ff94da80954b240a5fe5c57ea6f23d", func := "tumbler/tumblerlaw17.IslandGrows", spec := "islandGrows", unfollowed := true, recurses := true, apart := false, narrowed := true }
def IslandGrowsUptoSaid : Prop := islandGrowsUptoRow.holds Try.pinned (OpenSpec.upto islandGrowsSpec)

/-- 'tumblerlaw03.PoolOnce', WHERE WHAT IT READS IS OF BULK AT MOST 1048576: true; the input reads as it did. -/
def poolOnceUptoRow : OpenClaim := { program := "ytafljpfephomoaa", sum := "84d1ca42725ec9dbe24cff059d97e1dd40ff94da80954b240a5fe5c57ea6f23d", func := "tumbler/tumblerlaw03.PoolOnce", spec := "poolOnce", unfollowed := true, recurses := true, apart := false, narrowed := true }
def PoolOnceUptoSaid : Prop := poolOnceUptoRow.holds Try.pinned (OpenSpec.upto poolOnceSpec)

/-- 'tumblerlaw17.IslandTells', WHERE WHAT IT READS IS OF BULK AT MOST 1048576: true; the input reads as it did. -/
def islandTellsUptoRow : OpenClaim := { program := "ytafljpfephomoaa", sum := "84d1ca42725ec9dbe24cff059d97e1dd40ff94da80954b240a5fe5c57ea6f23d", func := "tumbler/tumblerlaw17.IslandTells", spec := "islandTells", unfollowed := true, recurses := true, apart := false, narrowed := true }
def IslandTellsUptoSaid : Prop := islandTellsUptoRow.holds Try.pinned (OpenSpec.upto islandTellsSpec)

/-- 'tumblerlaw17.IslandSame', WHERE WHAT IT READS IS OF BULK AT MOST 1048576: true; the input reads as it did. -/
def islandSameUptoRow : OpenClaim := { program := "ytafljpfephomoaa", sum := "84d1ca42725ec9dbe24cff059d97e1dd40ff94da80954b240a5fe5c57ea6f23d", func := "tumbler/tumblerlaw17.IslandSame", spec := "islandSame", unfollowed := true, recurses := true, apart := false, narrowed := true }
def IslandSameUptoSaid : Prop := islandSameUptoRow.holds Try.pinned (OpenSpec.upto islandSameSpec)

/-- 'tumblerlaw17.IslandRests', WHERE WHAT IT READS IS OF BULK AT MOST 1048576: true; the input reads as it did. -/
def islandRestsUptoRow : OpenClaim := { program := "ytafljpfephomoaa", sum := "84d1ca42725ec9dbe24cff059d97e1dd40ff94da80954b240a5fe5c57ea6f23d", func := "tumbler/tumblerlaw17.IslandRests", spec := "islandRests", unfollowed := true, recurses := true, apart := false, narrowed := true }
def IslandRestsUptoSaid : Prop := islandRestsUptoRow.holds Try.pinned (OpenSpec.upto islandRestsSpec)

/-- 'tumblerlaw03.PoolGoes', WHERE WHAT IT READS IS OF BULK AT MOST 1048576: true; the input reads as it did. -/
def poolGoesUptoRow : OpenClaim := { program := "ytafljpfephomoaa", sum := "84d1ca42725ec9dbe24cff059d97e1dd40ff94da80954b240a5fe5c57ea6f23d", func := "tumbler/tumblerlaw03.PoolGoes", spec := "poolGoes", unfollowed := true, recurses := true, apart := false, narrowed := true }
def PoolGoesUptoSaid : Prop := poolGoesUptoRow.holds Try.pinned (OpenSpec.upto poolGoesSpec)

/-- 'tumblerlaw03.PoolLays', WHERE WHAT IT READS IS OF BULK AT MOST 1048576: true; the input reads as it did. -/
def poolLaysUptoRow : OpenClaim := { program := "ytafljpfephomoaa", sum := "84d1ca42725ec9dbe24cff059d97e1dd40ff94da80954b240a5fe5c57ea6f23d", func := "tumbler/tumblerlaw03.PoolLays", spec := "poolLays", unfollowed := true, recurses := true, apart := false, narrowed := true }
def PoolLaysUptoSaid : Prop := poolLaysUptoRow.holds Try.pinned (OpenSpec.upto poolLaysSpec)

/-- 'tumblerlaw03.PoolPlays', WHERE WHAT IT READS IS OF BULK AT MOST 1048576: true; the input reads as it did. -/
def poolPlaysUptoRow : OpenClaim := { program := "ytafljpfephomoaa", sum := "84d1ca42725ec9dbe24cff059d97e1dd40ff94da80954b240a5fe5c57ea6f23d", func := "tumbler/tumblerlaw03.PoolPlays", spec := "poolPlays", unfollowed := true, recurses := true, apart := false, narrowed := true }
def PoolPlaysUptoSaid : Prop := poolPlaysUptoRow.holds Try.pinned (OpenSpec.upto poolPlaysSpec)

end Rows
end Go.Proofs.Ytafljpfephomoaa
