/- Trees: the laws' own tree; the example that is ahead of each law. -/
import Derived.Test.YtadfmhjnmmmalaaP5
import Derived.Test.YtadfmhjnmmmalaaNa
namespace Go.Proofs.Ytadfmhjnmmmalaa
open Go.RowKit Go.Maps
theorem Turn.below {S S' : Nat → Prop} {w w' : World} {B : Nat} (h : Turn S S' w w') (hS : ∀ j, S j → B ≤ j) (hB : B ≤ w.heap.size) : Below B w w' ∧ ∀ j, S' j → B ≤ j :=
  ⟨⟨h.1.os, h.1.tape, h.1.output, h.1.size, fun k hk => h.1.block k (by omega) (fun hs => by have := hS k hs; omega)⟩, fun j hj => (h.2 j hj).elim (hS j) (fun h => by omega)⟩
/-- A tree of the call's own. -/
def TreeN (B : Nat) (w : World) (t room : Nat) (L : List Lf) : Prop := ∃ S, Tree w t S room L ∧ ∀ j, S j → B ≤ j
theorem TreeN.new {B : Nat} {w w' : World} {t room : Nat} {L : List Lf} (h : TreeN B w t room L) (hB : Below w.heap.size w w') : TreeN B w' t room L := by
  obtain ⟨S, h1, h2⟩ := h
  exact ⟨S, h1.below hB, h2⟩
theorem put_own (B t room : Nat) (L : List Lf) (h : Int) (hh : In64 h) (b : Bx) (w : World) (hT : TreeN B w t room L) (hB : B ≤ w.heap.size) :
    Calls Try.prog 10 #[.pointer (some ⟨t, 0, none⟩), .int .i64 h, boxV b] w fun e w' => e = .returned (.int .i64 (putR room L h b).1) ∧ TreeN B w' t room (putR room L h b).2 ∧ Below B w w' := by
  obtain ⟨S, h1, h2⟩ := hT
  refine (put10_any t S room L h hh b w h1).mono ?_
  rintro e w' ⟨rfl, S', h3, h4⟩
  obtain ⟨a, c⟩ := h4.below h2 hB
  exact ⟨rfl, ⟨S', h3, c⟩, a⟩
theorem move_own (B t room : Nat) (L : List Lf) (h : Int) (hh : In64 h) (b : Bx) (w : World) (hT : TreeN B w t room L) (hB : B ≤ w.heap.size) :
    Calls Try.prog 14 #[.pointer (some ⟨t, 0, none⟩), .int .i64 h, boxV b] w fun e w' => e = .returned (.tuple #[.bool (moveR L h b).1, .int .i64 (moveR L h b).2.1]) ∧ TreeN B w' t room (moveR L h b).2.2 ∧ Below B w w' := by
  obtain ⟨S, h1, h2⟩ := hT
  refine (move14_any t S room L h hh b w h1).mono ?_
  rintro e w' ⟨rfl, S', h3, h4⟩
  obtain ⟨a, c⟩ := h4.below h2 hB
  exact ⟨rfl, ⟨S', h3, c⟩, a⟩
theorem drop_own (B t room : Nat) (L : List Lf) (h : Int) (hh : In64 h) (w : World) (hT : TreeN B w t room L) (hB : B ≤ w.heap.size) :
    Calls Try.prog 16 #[.pointer (some ⟨t, 0, none⟩), .int .i64 h] w fun e w' => e = .returned (.int .i64 (if hasL L h then 0 else 81)) ∧ TreeN B w' t room (delL L h) ∧ Below B w w' := by
  obtain ⟨S, h1, h2⟩ := hT
  refine (drop16_any t S room L h hh w h1).mono ?_
  rintro e w' ⟨rfl, S', h3, h4⟩
  obtain ⟨a, c⟩ := h4.below h2 hB
  exact ⟨rfl, ⟨S', h3, c⟩, a⟩
theorem pairs_own (B t room : Nat) (L : List Lf) (w : World) (hT : TreeN B w t room L) :
    Calls Try.prog 12 #[.pointer (some ⟨t, 0, none⟩)] w fun e w' => ∃ v, e = .returned v ∧ RdN w.heap.size w' v (pairsL L).length 2 (pairCells (pairsL L)) ∧ TreeN B w' t room L ∧ Below w.heap.size w w' := by
  obtain ⟨S, h1, h2⟩ := hT
  refine (pairs12_any t S room L w h1).mono ?_
  rintro e w' ⟨v, rfl, h3, h4⟩
  exact ⟨v, rfl, h3, ⟨S, h1.below h4, h2⟩, h4⟩
theorem new_own (room : Nat) (h1 : 1 ≤ room) (h2 : room ≤ 1024) (w : World) :
    Calls Try.prog 9 #[.int .i64 (room : Int)] w fun e w' => ∃ t, e = .returned (.tuple #[.pointer (some ⟨t, 0, none⟩), .int .i64 0]) ∧ TreeN w.heap.size w' t room [] ∧ Below w.heap.size w w' := by
  refine (new9_any room h1 h2 w).mono ?_
  rintro e w' ⟨t, S, rfl, h3, h4, h5⟩
  exact ⟨t, rfl, ⟨S, h3, h5⟩, h4⟩
def exA : Bx := ⟨0, 0, 0, 10, 10, 10⟩
def exB : Bx := ⟨100, 0, 0, 110, 10, 10⟩
def exC : Bx := ⟨200, 0, 0, 210, 10, 10⟩
theorem ex1 : putR 8 [] 1 exA = (0, [(1, grownB exA)]) := by decide
theorem ex2 : putR 8 [(1, grownB exA)] 2 exB = (0, [(1, grownB exA), (2, grownB exB)]) := by decide
theorem ex3 : pairsL [(1, grownB exA), (2, grownB exB)] = [(1, 2)] := by decide
theorem ex4 : moveR [(1, grownB exA), (2, grownB exB)] 2 exC = (true, 0, [(1, grownB exA), (2, grownB exC)]) := by decide
theorem ex5 : pairsL [(1, grownB exA), (2, grownB exC)] = [] := by decide
theorem ex6 : hasL [(1, grownB exA), (2, grownB exC)] 3 = false := by decide
set_option maxRecDepth 100000 in
theorem awake8_any (w : World) : Calls Try.prog 8 #[] w fun e w' => e = .returned (.bool true) ∧ Below w.heap.size w w' := by
  go_enter Try.func8, Try.ntmps8
  go_wp2_with fail
  refine (new_own 8 (by decide) (by decide) w).mono ?_
  rintro e w1 ⟨t, rfl, hT1, hB1⟩
  have hs1 := hB1.size
  go_wp2_with fail
  refine (put_own w.heap.size t 8 [] 1 (by unfold In64; omega) exA w1 hT1 hs1).mono ?_
  rintro e w2 ⟨rfl, hT2, hB2⟩
  rw [ex1] at hT2 ⊢
  replace hB1 := hB1.trans hB2
  clear hT1 hB2 hs1
  have hs2 := hB1.size
  go_wp2_with fail
  refine (put_own w.heap.size t 8 _ 2 (by unfold In64; omega) exB w2 hT2 hs2).mono ?_
  rintro e w3 ⟨rfl, hT3, hB3⟩
  rw [ex2] at hT3 ⊢
  replace hB1 := hB1.trans hB3
  clear hT2 hB3 hs2
  have hs3 := hB1.size
  go_wp2_with fail
  obtain ⟨S, hT3, hS3⟩ := hT3
  refine (pairs12_any t S 8 _ w3 hT3).mono ?_
  rintro e w4 ⟨v, rfl, hv, hB4⟩
  have hT4 := hT3.below hB4
  rw [ex3] at hv
  obtain ⟨va, vc, rfl, v1, v2⟩ := hv.1.shape
  have hvS : ∀ b, (Value.slice va [((1 : Int), (2 : Int))].length vc).ownBlock = some b → ¬ S b := fun b hb hs => by
    have h1 := hv.2 b hb
    have h2 := hT3.lt b hs
    omega
  replace hB1 := hB1.trans (hB4.mono hs3)
  clear hT3 hB4 hs3
  have hs4 := hB1.size
  go_wp2_with fail
  refine (move14_any t S 8 _ 2 (by unfold In64; omega) exC w4 hT4).mono ?_
  rintro e w5 ⟨rfl, S', hT5, hTu⟩
  have hv5 := hv.1.mod hTu.1 hvS
  obtain ⟨hB5, hS5⟩ := hTu.below hS3 hs4
  rw [ex4] at hT5 ⊢
  replace hB1 := hB1.trans hB5
  clear hB5 hTu hv hvS hT4 hs4 hS3
  have hs5 := hB1.size
  have hv6 := hv5.alloc (.cells #[.int .i64 1, .int .i64 2] 51)
  have hw6 : Rd (w5.alloc (.cells #[.int .i64 1, .int .i64 2] 51)) (.slice (some ⟨w5.heap.size, 0, none⟩) 1 1) 1 2 (pairCells [(1, 2)]) := Rd.of_own (base := 0) (ownsRow_blk (Blk.newAt (w := w5) (b := w5.heap.size) rfl 51 [.int .i64 1, .int .i64 2]) rfl (by decide) (Nat.zero_le _))
  have hT6 := hT5.below ((Below.refl _ w5).alloc (Nat.le_refl _) (.cells #[.int .i64 1, .int .i64 2] 51))
  have hB6 := hB1.trans ((Below.refl _ w5).alloc hs5 (.cells #[.int .i64 1, .int .i64 2] 51))
  clear hv5 hT5 hB1
  go_wp2_with fail
  refine (pairs15_any _ _ 1 [(1, 2)] rfl _ hv6 hw6).mono ?_
  rintro e w7 ⟨rfl, j, rfl⟩
  have hT7 := hT6.below (Below.drewN' (Below.refl _ _) j)
  have hB7 := Below.drewN' hB6 j
  clear hv6 hw6 hT6 hB6
  have hs7 := hB7.size
  go_wp2_with fail
  refine (pairs12_any t S' 8 _ _ hT7).mono ?_
  rintro e w8 ⟨v', rfl, hv8, hB8⟩
  have hT8 := hT7.below hB8
  have hB9 := hB7.trans (hB8.mono hs7)
  rw [ex5] at hv8
  obtain ⟨ua, uc, rfl, u1, u2⟩ := hv8.1.shape
  clear hv8 hT7 hB7 hB8 hs7 hs5
  have hs8 := hB9.size
  go_wp2_with fail
  refine (drop16_any t S' 8 _ 3 (by unfold In64; omega) w8 hT8).mono ?_
  rintro e w9 ⟨rfl, S'', hT9, hTu⟩
  obtain ⟨hB10, -⟩ := hTu.below hS5 hs8
  rw [ex6]
  replace hB9 := hB9.trans hB10
  go_wp2
  go_ret
  exact ⟨rfl, hB9⟩
end Go.Proofs.Ytadfmhjnmmmalaa
