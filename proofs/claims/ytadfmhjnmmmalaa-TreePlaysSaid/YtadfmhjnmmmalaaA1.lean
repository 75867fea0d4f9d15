/- Trees: the functions on boxes. -/
import Derived.Test.YtadfmhjnmmmalaaT2
import Derived.Test.YtadfmhjnmmmalaaProg
import Derived.Test.YtadfmhjnmmmalaaO
import Derived.Laws.Cover1
import Derived.Laws.StructEq
import Derived.Deep.DeepCutAuto
import Derived.Deep.RegionHeld3
import Derived.Deep.RegionLaw
import Derived.Deep.AppendLies
import Derived.Deep.QuietTactic
import Derived.Deep.CutBlock
import Derived.Deep.LoopGhost
import Derived.Deep.Upon
import Derived.WalkSpells
import Derived.WalkMore
import Derived.LoopTactic
import Derived.BigQuiet
import Derived.OwnWalk
import Derived.Maps.OwnSet
import Derived.Maps.OwnOps
import Derived.Maps.RangeWalk
import Derived.Maps.AppendAt
import Derived.Lib.Hide
namespace Go.Proofs.Ytadfmhjnmmmalaa
open Go.RowKit
def Bx.cells (b : Bx) : List Value := [.int .i64 b.x0, .int .i64 b.y0, .int .i64 b.z0, .int .i64 b.x1, .int .i64 b.y1, .int .i64 b.z1]
abbrev boxV (b : Bx) : Value := .agg #[.int .i64 b.x0, .int .i64 b.y0, .int .i64 b.z0, .int .i64 b.x1, .int .i64 b.y1, .int .i64 b.z1]
set_option maxRecDepth 100000 in
theorem join22_any (a b : Bx) (w : World) : Calls Try.prog 22 #[boxV a, boxV b] w fun e w' => e = .returned (boxV (joinB a b)) ∧ Below w.heap.size w w' := by
  have m1 : (if b.x0 < a.x0 then b.x0 else a.x0) = (joinB a b).x0 := rfl
  have m2 : (if b.y0 < a.y0 then b.y0 else a.y0) = (joinB a b).y0 := rfl
  have m3 : (if b.z0 < a.z0 then b.z0 else a.z0) = (joinB a b).z0 := rfl
  have m4 : (if a.x1 < b.x1 then b.x1 else a.x1) = (joinB a b).x1 := rfl
  have m5 : (if a.y1 < b.y1 then b.y1 else a.y1) = (joinB a b).y1 := rfl
  have m6 : (if a.z1 < b.z1 then b.z1 else a.z1) = (joinB a b).z1 := rfl
  generalize joinB a b = c at *
  go_enter Try.func22, Try.ntmps22
  go_wp2
  exact bodyPost_ret (v := boxV c) (by simp [results, Try.f22, go_sem]) rfl ⟨rfl, (((Below.refl _ w).alloc (Nat.le_refl _) _).alloc (by simp) _).alloc (by simp; omega) _⟩
set_option maxRecDepth 100000 in
theorem meet20_any (a b : Bx) (w : World) : Calls Try.prog 20 #[boxV a, boxV b] w fun e w' => e = .returned (.bool (meetB a b)) ∧ Below w.heap.size w w' := by
  have hm : meetB a b = meetB a b := rfl
  conv at hm => rhs; unfold meetB
  rw [hm]
  clear hm
  have B1 : Below w.heap.size w ((w.alloc (.cells #[.int .i64 a.x0, .int .i64 a.y0, .int .i64 a.z0, .int .i64 a.x1, .int .i64 a.y1, .int .i64 a.z1] 34)).alloc (.cells #[.int .i64 b.x0, .int .i64 b.y0, .int .i64 b.z0, .int .i64 b.x1, .int .i64 b.y1, .int .i64 b.z1] 34)) := ((Below.refl _ w).alloc (Nat.le_refl _) _).alloc (by simp) _
  go_enter Try.func20, Try.ntmps20
  go_wp2
  all_goals (go_ret; exact ⟨by simp_all <;> (intros; omega), B1⟩)
set_option maxRecDepth 100000 in
theorem grown32_any (b : Bx) (h : mayB b = true) (w : World) : Calls Try.prog 32 #[boxV b, .int .i64 64] w fun e w' => e = .returned (boxV (grownB b)) ∧ Below w.heap.size w w' := by
  unfold mayB at h
  simp only [Bool.and_eq_true, decide_eq_true_eq] at h
  obtain ⟨⟨⟨⟨h1, h2⟩, h3⟩, h4, h5, h6⟩, h7, h8, h9⟩ := h
  go_enter Try.func32, Try.ntmps32
  go_wp2
  exact bodyPost_ret (v := boxV (grownB b)) (by simp [results, Try.f32, go_sem, grownB]) rfl ⟨rfl, ((Below.refl _ w).alloc (Nat.le_refl _) _).alloc (by simp) _⟩
set_option maxRecDepth 100000 in
theorem cost44_any (b : Bx) (w : World) : Calls Try.prog 44 #[boxV b] w fun e w' => (∃ c : Int, e = .returned (.int .i64 c)) ∧ Below w.heap.size w w' := by
  go_enter Try.func44, Try.ntmps44
  go_wp2
  go_ret
  exact ⟨⟨_, rfl⟩, (Below.refl _ w).alloc (Nat.le_refl _) _⟩
set_option maxRecDepth 100000 in
theorem may30_any (b : Bx) (w : World) : Calls Try.prog 30 #[boxV b] w fun e w' => e = .returned (.bool (mayB b)) ∧ Below w.heap.size w w' := by
  obtain ⟨lo, hlo⟩ : ∃ lo, (if b.z0 < if b.y0 < b.x0 then b.y0 else b.x0 then b.z0 else if b.y0 < b.x0 then b.y0 else b.x0) = lo := ⟨_, rfl⟩
  obtain ⟨hi, hhi⟩ : ∃ hi, (if (if b.x1 < b.y1 then b.y1 else b.x1) < b.z1 then b.z1 else if b.x1 < b.y1 then b.y1 else b.x1) = hi := ⟨_, rfl⟩
  have hk : mayB b = (decide (b.x0 ≤ b.x1) && decide (b.y0 ≤ b.y1) && decide (b.z0 ≤ b.z1) && decide (-1073741824 ≤ lo) && decide (hi ≤ 1073741824)) := by
    have h1 : (-1073741824 ≤ lo) ↔ (-1073741824 ≤ b.x0 ∧ -1073741824 ≤ b.y0 ∧ -1073741824 ≤ b.z0) := by rw [← hlo]; split <;> (split at * <;> omega)
    have h2 : (hi ≤ 1073741824) ↔ (b.x1 ≤ 1073741824 ∧ b.y1 ≤ 1073741824 ∧ b.z1 ≤ 1073741824) := by rw [← hhi]; split <;> (split at * <;> omega)
    unfold mayB
    simp only [h1, h2]
  rw [hk]
  have B1 : Below w.heap.size w (w.alloc (.cells #[.int .i64 b.x0, .int .i64 b.y0, .int .i64 b.z0, .int .i64 b.x1, .int .i64 b.y1, .int .i64 b.z1] 34)) := (Below.refl _ w).alloc (Nat.le_refl _) _
  clear hk
  go_enter Try.func30, Try.ntmps30
  go_wp2
  go_quiet (fail)
  have B2 := Below.drewN' B1 nq
  go_wp2
  all_goals (go_ret; exact ⟨by simp_all <;> (intros; omega), B2⟩)
end Go.Proofs.Ytadfmhjnmmmalaa
