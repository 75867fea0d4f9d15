/- The walks of the law's numbers, and of chapter 17's examples. -/
import Derived.Test.YtafljpfephomoaaA3
import Derived.Test.YtafljpfephomoaaA4
namespace Go.Proofs.Ytafljpfephomoaa
open Go.RowKit
set_option maxRecDepth 100000 in
set_option maxHeartbeats 4000000 in
theorem numbers_eq (av bv : Value) (n : Nat) (xs : List Int) (hn : xs.length = n) (w : World) (ha : Rd w av n 1 (ints xs)) (hb : Rd w bv n 1 (ints xs)) :
    Calls Try.prog 22 #[av, bv] w fun e w' => e = .returned (.bool true) ∧ ∃ j, w' = w.drewN j := by
  obtain ⟨aa, ac, rfl, al, acap, aml, ax⟩ := ha
  obtain ⟨ba, bc, rfl, bl, bcap, bml, bx⟩ := hb
  unfold maxLen at aml bml
  have Hn := Lib.hid hn; clear hn al bl
  have hnn : ((n : Int) != (n : Int)) = false := by simp
  go_enter Try.func22, Try.ntmps22
  go_wp2
  go_loopw [5] (fun i wr => ∃ (k j : Nat), k ≤ n ∧ i = .int .i64 k ∧ wr = w.drewN j) (fun i _ => n - (intOf i).toNat)
  case atStart => exact ⟨0, 0, Nat.zero_le _, rfl, rfl⟩
  case round =>
    obtain ⟨k, j, hk, rfl, rfl⟩ := hrel
    by_cases hlt : k < n
    · obtain ⟨ab, ao, rfl, hab, ha⟩ := ax (by omega)
      obtain ⟨bb, bo, rfl, hbb, hb⟩ := bx (by omega)
      have ha' := ha k (by omega)
      have hb' := hb k (by omega)
      rw [ints_get (by have := Hn.out; omega)] at ha' hb'
      have hk1 : (k : Int) < (n : Int) := by omega
      clear ha hb
      go_wp2
      go_quiet (fail)
      go_wp2
      go_roundw
      case rel => exact ⟨k + 1, j + nq, by omega, by go_num, rfl⟩
      case measure => simp [intOf]; omega
    · go_wp2
      go_ret
      exact ⟨rfl, _, rfl⟩

theorem Below.drewN' {B : Nat} {a w : World} (h : Below B a w) (j : Nat) : Below B a (w.drewN j) := ⟨h.os, h.tape, h.output, h.size, h.block⟩
theorem groups_at (n : Int) (lv wv : Value) (ls : List (Int × Int)) (ws : List Bool) (nl nw : Nat) (h1 : ls.length = nl) (h2 : ws.length = nw) (N : Nat) (hN : (N : Int) = min (max n 0) 4096) (w : World) (hl : Rd w lv nl 2 (pairCells ls)) (hw : Rd w wv nw 1 (bools ws)) (hlm : nl * 16 ≤ 140737488351232) :
    Calls Try.prog 13 #[.int .i64 n, lv, wv] w fun e w' => ∃ v, e = .returned v ∧ w'.ownsRow w.heap.size 3 1 v N (ints (groupsN N ws ls)) ∧ Below w.heap.size w w' := by
  subst h1; subst h2; exact groups_any n lv wv ls ws N hN w hl hw hlm
theorem blk_rd {w : World} {b : Nat} {t : TypeId} {vs : List Value} {n sz : Nat} (h : Blk w b t vs) (hl : vs.length = n * sz) (hm : n ≤ maxLen) : Rd w (.slice (some ⟨b, 0, none⟩) n n) n sz vs := Rd.of_own (ownsRow_blk (base := 0) h hl hm (Nat.zero_le _))

set_option maxRecDepth 100000 in
set_option maxHeartbeats 4000000 in
theorem awake_any (w : World) : Calls Try.prog 11 #[] w fun e w' => e = .returned (.bool true) ∧ Below w.heap.size w w' := by
  go_enter Try.func11, Try.ntmps11
  go_wp2_with fail
  refine (groups_at 5 _ _ [(0, 3), (3, 1), (4, 4)] [] 3 0 rfl rfl 5 (by decide) _ (blk_rd (Blk.new w 25 [_, _, _, _, _, _]) rfl (by decide)) (Rd.nil _ _ _ _ (by decide)) (by decide)).mono ?_
  rintro e w1 ⟨v1, rfl, o1, b1⟩
  rw [show groupsN 5 [] [(0, 3), (3, 1), (4, 4)] = [0, 0, 2, 0, 4] by decide] at o1
  have r1 := Rd.of_own o1
  have B1 : Below w.heap.size w w1 := ((Below.refl _ w).alloc (Nat.le_refl _) _).trans (b1.mono (by simp))
  clear o1 b1
  go_wp2_with fail
  refine (groups_at 5 _ _ [(0, 3), (3, 1)] [false, false, false, true] 2 4 rfl rfl 5 (by decide) _ (blk_rd ((Blk.new w1 25 [_, _, _, _]).alloc _) rfl (by decide)) (blk_rd (Blk.newAt (b := w1.heap.size + 1) (by simp) 4 [_, _, _, _]) rfl (by decide)) (by decide)).mono ?_
  rintro e w2 ⟨v2, rfl, o2, b2⟩
  rw [show groupsN 5 [false, false, false, true] [(0, 3), (3, 1)] = [0, 1, 2, 3, 4] by decide] at o2
  have r2 := Rd.of_own o2
  have B12 : Below w1.heap.size w1 w2 := (((Below.refl _ w1).alloc (Nat.le_refl _) _).alloc (by simp) _).trans (b2.mono (by simp; omega))
  have r1 := r1.new B12
  have B2 := B1.trans (B12.mono B1.size)
  clear o2 b2 B12 B1
  go_wp2_with fail
  refine (rest_any _ _ 3 3 [0, 0, 2] [9, 1, 5] rfl rfl 4 _ (blk_rd ((Blk.new w2 3 [_, _, _]).alloc _) rfl (by decide)) (blk_rd (Blk.newAt (b := w2.heap.size + 1) (by simp) 3 [_, _, _]) rfl (by decide)) (by decide)).mono ?_
  rintro e w3 ⟨v3, rfl, o3, b3⟩
  rw [show restN [0, 0, 2] [9, 1, 5] 4 = [false, false, true] by decide] at o3
  obtain ⟨g3, c3, rfl⟩ := ownsRow_succ (k := 2) o3
  have r3 := Rd.of_own o3
  have B23 : Below w2.heap.size w2 w3 := (((Below.refl _ w2).alloc (Nat.le_refl _) _).alloc (by simp) _).trans (b3.mono (by simp; omega))
  have r1 := r1.new B23
  have r2 := r2.new B23
  have B3 := B2.trans (B23.mono B2.size)
  clear o3 b3 B23 B2
  go_wp2_with fail
  refine (numbers_eq _ _ 5 [0, 0, 2, 0, 4] rfl _ (r1.alloc _) (blk_rd (Blk.new w3 3 [_, _, _, _, _]) rfl (by decide))).mono ?_
  rintro e w4 ⟨rfl, j4, rfl⟩
  go_wp2_with fail
  refine (numbers_eq _ _ 5 [0, 1, 2, 3, 4] rfl _ (((r2.alloc _).drewN _).alloc _) (blk_rd (Blk.newAt (b := w3.heap.size + 1) (by simp) 3 [_, _, _, _, _]) rfl (by decide))).mono ?_
  rintro e w5 ⟨rfl, j5, rfl⟩
  have r4 := (((r3.alloc (.cells #[.int .i64 0, .int .i64 0, .int .i64 2, .int .i64 0, .int .i64 4] 3)).drewN j4).alloc (.cells #[.int .i64 0, .int .i64 1, .int .i64 2, .int .i64 3, .int .i64 4] 3)).drewN j5
  have q0 := r4.at (i := 0) (by decide)
  have q1 := r4.at (i := 1) (by decide)
  have q2 := r4.at (i := 2) (by decide)
  simp only [Nat.zero_add, bools, List.map_cons, List.getElem?_cons_zero, List.getElem?_cons_succ] at q0 q1 q2
  go_wp2
  go_ret
  exact ⟨rfl, Below.drewN' ((Below.drewN' (B3.alloc B3.size _) _).alloc (by have := B3.size; simp; omega) _) _⟩
end Go.Proofs.Ytafljpfephomoaa
