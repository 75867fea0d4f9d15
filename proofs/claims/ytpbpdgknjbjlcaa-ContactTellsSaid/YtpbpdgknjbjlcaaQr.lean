/- A region that draws its order, whose operations read and whose callees leave all that was as it was: walked once, whatever its guards. No program here. -/
import Derived.Test.YtpbpdgknjbjlcaaBase
import Derived.BigQuiet
namespace Go.Proofs.Ytpbpdgknjbjlcaa
open Go.RowKit
/-- A world behind another one: all that was is as it was. -/
structure After (w : World) where
  W : World
  h : Below w.heap.size w W
instance (w : World) : Nonempty (After w) := ⟨⟨w, Below.refl _ _⟩⟩
theorem After.cell {w : World} (u : After w) {p : Addr} {v : Value} (h : w.cell? p = some v) (hp : p.block < w.heap.size) : u.W.cell? p = some v := by
  rw [u.h.cell hp]
  exact h
theorem wp_region_after {P : Program} {id : Nat} {Q : Exit → Act → World → Prop} {a : Act} {w : World} {l : List Oper} (hm : P.follows .mixedOrders = true) (hB : Region.lexB .any l.toArray = true)
    (h : wpQuiet P l.toArray (fun w' => ∃ u : After w, w' = u.W) (fun a' => ∀ w', (∃ u : After w, w' = u.W) → Q .normal a' w') l a) : (Code.region id l.toArray true).wp P Q a w :=
  wp_region_quiet (C := fun w' => ∃ u : After w, w' = u.W) hm hB ⟨⟨_, (Below.refl _ w).drew⟩, rfl⟩ (by simpa using h)
/-- A callee that only makes memory, met behind w. -/
theorem calls_after {P : Program} {f : FuncId} {args : Array Value} {w : World} {v : Value} (u : After w) (h : Calls P f args u.W fun e w' => e = .returned v ∧ Below u.W.heap.size u.W w') : Calls P f args u.W fun e w'' => e = .returned v ∧ ∃ u' : After w, w'' = u'.W :=
  h.mono fun _ _ ⟨he, hB⟩ => ⟨he, ⟨_, u.h.trans (hB.mono u.h.size)⟩, rfl⟩
end Go.Proofs.Ytpbpdgknjbjlcaa
