/- Contacts: the document's second example, reckoned. -/
import Derived.Test.YtpbpdgknjbjlcaaDf
namespace Go.Proofs.Ytpbpdgknjbjlcaa
open Go.RowKit
instance : DecidableEq Pt := fun a b => decidable_of_iff (a.x = b.x ∧ a.y = b.y ∧ a.z = b.z) (by cases a; cases b; simp)
instance : DecidableEq Sp := fun a b => decidable_of_iff (a.p = b.p ∧ a.d = b.d ∧ a.id = b.id) (by cases a; cases b; simp)
def coA : Cor := ⟨[⟨0, 0, 0⟩], [], [], 3⟩
def coB : Cor := ⟨[⟨4, 0, 0⟩], [], [], 3⟩
def axU : Pt := ⟨1048576, 0, 0⟩
theorem coA_may : mayB coA = true := by decide
theorem coB_may : mayB coB = true := by decide
theorem axU_root : rootP (dotP axU axU) = 1048576 := (root_eq (by decide) (by unfold IsRoot; decide)).symm
theorem axU_small : smallP axU = 1048576 := by
  unfold smallP
  rw [if_pos (by decide), axU_root]
theorem axU_up : upP axU = 1048576 := by
  unfold upP
  rw [if_pos (by decide), axU_root, if_pos (by decide)]
set_option maxRecDepth 100000 in
theorem short4 : shortP ⟨4, 0, 0⟩ = ⟨1, 0, 0⟩ := by decide +kernel
set_option maxRecDepth 100000 in
theorem len1 : lenP ⟨1, 0, 0⟩ = (axU, true) := by decide +kernel
theorem ways_co : waysP coA coB = [⟨1, 0, 0⟩] := by
  have : waysP coA coB = [shortP ⟨4, 0, 0⟩] := rfl
  rw [this, short4]
theorem there_co : thereP coA coB axU = -2 := by
  unfold thereP
  rw [axU_small, axU_up]
  decide
theorem back_co : backP coA coB axU = -10 := by
  unfold backP
  rw [axU_small, axU_up]
  decide
theorem apart_co : apartP coA coB = ⟨axU, -2, false⟩ := by
  unfold apartP
  rw [ways_co]
  simp [stepA, len1, there_co, back_co]
theorem go_co : goB coA coB axU (-2) 0 = true := by
  unfold goB
  rw [coA_may, coB_may, axU_small]
  decide
theorem no_co : goB coA coB axU 1 0 = false := by
  unfold goB
  rw [coA_may, coB_may, axU_small]
  decide
theorem fronA_co : fronA coA axU = [0] := by
  unfold fronA
  rw [axU_up]
  decide
theorem fronB_co : fronB coB axU = [0] := by
  unfold fronB
  rw [axU_up]
  decide
theorem spots_co : spotsP coA coB axU 0 = [⟨⟨1, 0, 0⟩, 2, 256⟩] := by
  unfold spotsP
  rw [fronA_co, fronB_co, if_neg (by decide)]
  have : mkB coA coB axU 0 = ⟨⟨1, 0, 0⟩, 2, 256⟩ := by
    unfold mkB
    rw [axU_small]
    decide
  simp [this, keepS]
end Go.Proofs.Ytpbpdgknjbjlcaa
