/- cmp.Compare, cmp.Or, and the comparing of two pairs. -/
import Derived.Test.YtlcmjpligaiadaaProg
import Derived.Test.YtlcmjpligaiadaaD1
import Derived.WalkSpells
import Derived.Deep.RegionHeld3
import Derived.Deep.QuietTactic
import Derived.BigQuiet
import Derived.LoopN
namespace Go.Proofs.Ytlcmjpligaiadaa
open Go.RowKit
theorem isnan_any (a : Int) (w : World) : Calls Try.prog 87 #[.int .i64 a] w fun e w' => e = .returned (.bool false) ∧ w = w' := by
  have h : (a != a) = false := by simp
  go_enter Try.func87, Try.ntmps87
  go_wp2
  go_ret
  exact ⟨rfl, rfl⟩
theorem compare_any (a b : Int) (w : World) : Calls Try.prog 79 #[.int .i64 a, .int .i64 b] w fun e w' => e = .returned (.int .i64 (cmp1 a b)) ∧ w = w' := by
  rcases Int.lt_trichotomy a b with h | h | h
  · have hfin := Lib.hid (show cmp1 a b = -1 by simp [cmp1, h])
    go_enter Try.func79, Try.ntmps79
    go_wp2_with fail
    refine (isnan_any a w).mono ?_
    rintro e w' ⟨rfl, rfl⟩
    go_wp2_with fail
    refine (isnan_any b w).mono ?_
    rintro e w' ⟨rfl, rfl⟩
    go_wp2
    go_ret
    exact ⟨ret_int hfin.out.symm, rfl⟩
  · have hfin := Lib.hid (show cmp1 a b = 0 by simp [cmp1, h])
    have h1 : ¬ a < b := by omega
    have h2 : ¬ b < a := by omega
    clear h
    go_enter Try.func79, Try.ntmps79
    go_wp2_with fail
    refine (isnan_any a w).mono ?_
    rintro e w' ⟨rfl, rfl⟩
    go_wp2_with fail
    refine (isnan_any b w).mono ?_
    rintro e w' ⟨rfl, rfl⟩
    go_wp2
    go_ret
    exact ⟨ret_int hfin.out.symm, rfl⟩
  · have h1 : ¬ a < b := by omega
    have hfin := Lib.hid (show cmp1 a b = 1 by simp [cmp1, h, h1])
    go_enter Try.func79, Try.ntmps79
    go_wp2_with fail
    refine (isnan_any a w).mono ?_
    rintro e w' ⟨rfl, rfl⟩
    go_wp2_with fail
    refine (isnan_any b w).mono ?_
    rintro e w' ⟨rfl, rfl⟩
    go_wp2
    go_ret
    exact ⟨ret_int hfin.out.symm, rfl⟩
def orI (x y : Int) : Int := if x = 0 then y else x
theorem or_any (x y : Int) (b : Nat) (w : World) (hb : Blk w b 3 [.int .i64 x, .int .i64 y]) :
    Calls Try.prog 78 #[.slice (some ⟨b, 0, none⟩) 2 2] w fun e w' => e = .returned (.int .i64 (orI x y)) ∧ w = w' := by
  have c0 := hb.cell 0
  have c1 := hb.cell 1
  simp only [List.getElem?_cons_zero, List.getElem?_cons_succ] at c0 c1
  by_cases hx : x = 0
  · subst hx
    by_cases hy : y = 0
    · subst hy
      go_enter Try.func78, Try.ntmps78
      go_wp2
      refine wp_loop_rounds 3 ?_
      rw [rounds_succ]
      go_wp2
      rw [rounds_succ]
      go_wp2
      rw [rounds_succ]
      go_wp2
      go_ret
      exact ⟨ret_int (by simp [orI]), rfl⟩
    · have hy' : (y != 0) = true := by simpa using hy
      clear hy
      go_enter Try.func78, Try.ntmps78
      go_wp2
      refine wp_loop_rounds 3 ?_
      rw [rounds_succ]
      go_wp2
      rw [rounds_succ]
      go_wp2
      go_ret
      exact ⟨ret_int (by simp [orI]), rfl⟩
  · have hx' : (x != 0) = true := by simpa using hx
    have hfin := Lib.hid hx
    clear hx
    go_enter Try.func78, Try.ntmps78
    go_wp2
    refine wp_loop_rounds 3 ?_
    rw [rounds_succ]
    go_wp2
    go_ret
    exact ⟨ret_int (by rw [orI, if_neg hfin.out]), rfl⟩
theorem orI_cmp (p q : Pr) : orI (cmp1 p.1 q.1) (cmp1 p.2 q.2) = cmpP p q := rfl
def CmpPost (p q : Pr) (w : World) (e : Ending) (w' : World) : Prop := e = .returned (.int .i64 (cmpP p q)) ∧ Below w.heap.size w w'
set_option maxRecDepth 100000 in
set_option maxHeartbeats 2000000 in
theorem find1_any (a b c d : Int) (w : World) : Calls Try.prog 77 #[.agg #[.int .i64 a, .int .i64 b], .agg #[.int .i64 c, .int .i64 d]] w (CmpPost (a, b) (c, d) w) := by
  go_enter Try.func77, Try.ntmps77
  go_wp2
  obtain ⟨W0, hW0⟩ : ∃ W0, (w.alloc (.cells #[.int .i64 a, .int .i64 b] 42)).alloc (.cells #[.int .i64 c, .int .i64 d] 42) = W0 := ⟨_, rfl⟩
  have x0 : Blk W0 w.heap.size 42 [.int .i64 a, .int .i64 b] := by rw [← hW0]; exact (Blk.new w 42 [_, _]).alloc _
  have x1 : Blk W0 (w.heap.size + 1) 42 [.int .i64 c, .int .i64 d] := by rw [← hW0]; exact Blk.newAt (by simp) 42 [_, _]
  have B0 : Below w.heap.size w W0 := by rw [← hW0]; exact ((Below.refl _ w).alloc (Nat.le_refl _) _).alloc (by simp) _
  rw [hW0]
  clear hW0
  have c0 := x0.cell 0
  have c1 := x0.cell 1
  have d0 := x1.cell 0
  have d1 := x1.cell 1
  simp only [List.getElem?_cons_zero, List.getElem?_cons_succ] at c0 c1 d0 d1
  go_region_held3 (fun wx => wx.cell? ⟨w.heap.size, 0, none⟩ = some (.int .i64 a) ∧ wx.cell? ⟨w.heap.size, 1, none⟩ = some (.int .i64 b) ∧ wx.cell? ⟨w.heap.size + 1, 0, none⟩ = some (.int .i64 c) ∧ wx.cell? ⟨w.heap.size + 1, 1, none⟩ = some (.int .i64 d))
    (go_keep)
    (first
      | (go_at_call 79; refine (compare_any _ _ _).mono ?_; rintro e w5 ⟨rfl, rfl⟩)
      | (go_at_call 78; refine (or_any (cmp1 a c) (cmp1 b d) W0.heap.size _ (by exact (Blk.new W0 3 [_, _]).drew)).mono ?_
         rintro e w6 ⟨rfl, rfl⟩))
  all_goals
    go_wp2
    go_ret
    refine ⟨?_, ?_⟩
    · exact ret_int (by rw [← orI_cmp (a, b) (c, d)])
    · exact (B0.alloc B0.size _).drew
end Go.Proofs.Ytlcmjpligaiadaa
