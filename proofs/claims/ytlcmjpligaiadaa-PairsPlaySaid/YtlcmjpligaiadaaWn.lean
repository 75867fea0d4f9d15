/- PairsPlay at whatever room. -/
import Derived.Test.YtlcmjpligaiadaaWm
namespace Go.Proofs.Ytlcmjpligaiadaa
open Go.RowKit
theorem play4_any (room : Int) (sv : Value) (m : Nat) (ss : List Stp) (hl : ss.length = m) (w : World) (hr : Rd w sv m 4 (stps ss)) (hg : ∀ x ∈ ss, GoodStp x) (hb : m * 32 ≤ 140737488351232) :
    Calls Try.prog 8 #[.int .i64 room, sv] w fun e w' => e = .returned (.bool true) ∧ Below w.heap.size w w' := by
  by_cases h : room < 1 ∨ 4096 < room
  · exact play4_bad room h sv w
  · exact play4_ok room room.toNat (by omega) (by omega) (by omega) sv m ss hl w hr hg hb
end Go.Proofs.Ytlcmjpligaiadaa
