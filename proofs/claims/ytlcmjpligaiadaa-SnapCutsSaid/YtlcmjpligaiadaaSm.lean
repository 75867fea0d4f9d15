/- Snap: an empty world. -/
import Derived.Test.YtlcmjpligaiadaaSl
import Derived.Laws.Cover1
namespace Go.Proofs.Ytlcmjpligaiadaa
open Go.RowKit
set_option maxRecDepth 100000 in
set_option maxHeartbeats 2000000 in
theorem beyond72_any (w : World) : Calls Try.prog 72 #[.agg #[.int .i64 0, .int .i64 0, .int .i64 0], .int .i64 137438953472] w fun e w' => e = .returned (.bool false) ∧ Below w.heap.size w w' := by
  go_enter Try.func72, Try.ntmps72
  go_wp2
  go_ret
  refine ⟨rfl, ?_⟩
  repeat' (first | exact Below.refl _ _ | refine Below.drew ?_ | refine Below.alloc ?_ (by simp) _)
theorem qnew256 (w : World) : Calls Try.prog 30 #[.int .i64 256] w fun e w' => ∃ q g, e = .returned (.tuple #[.pointer (some ⟨q, 0, none⟩), .int .i64 0]) ∧ QAt w' q g 256 0 0 [] ∧ Below w.heap.size w w' ∧ w.heap.size ≤ q ∧ w.heap.size ≤ g := qnew_ok 256 w (by decide) (by decide)
theorem PoolZ.ne {w : World} {p sb n sz : Nat} {ty ety : TypeId} (h : PoolZ w p sb n sz ty ety) {a : Addr} (h1 : p ≠ a.block) (h2 : sb ≠ a.block) (u : Value) : PoolZ (w.setCell a u) p sb n sz ty ety := by
  obtain ⟨h3, vs, h4, h5⟩ := h
  exact ⟨h3.setCell_ne h1 u, vs, h4.setCell_ne h2 u, h5⟩
theorem PoolZ.new {w w' : World} {p sb n sz : Nat} {ty ety : TypeId} (h : PoolZ w p sb n sz ty ety) (hB : Below w.heap.size w w') : PoolZ w' p sb n sz ty ety := by
  obtain ⟨h3, vs, h4, h5⟩ := h
  exact ⟨h3.below hB h3.lt, vs, h4.below hB h4.lt, h5⟩
theorem PoolZ.lt {w : World} {p sb n sz : Nat} {ty ety : TypeId} (h : PoolZ w p sb n sz ty ety) : p < w.heap.size ∧ sb < w.heap.size := ⟨h.1.lt, by obtain ⟨_, vs, h4, _⟩ := h; exact h4.lt⟩
def wcells (gb gj gq : Value) : List Value := [.int .i64 0, .int .i64 0, .int .i64 0, .pointer none, gb, gj, .slice none 0 0, gq, .int .i64 0, .int .i64 0, .int .i64 0, .int .i64 0]
def WorldZ (w : World) (o : Nat) : Prop := ∃ pb sb pj sj q, Blk w o 119 (wcells (.pointer (some ⟨pb, 0, none⟩)) (.pointer (some ⟨pj, 0, none⟩)) (.pointer (some ⟨q, 0, none⟩))) ∧ PoolZ w pb sb 24 33 149 178 ∧ PoolZ w pj sj 16 20 152 182
set_option maxRecDepth 100000 in
set_option maxHeartbeats 2000000 in
theorem newW_any (w : World) : Calls Try.prog 54 #[.agg #[.int .i64 0, .int .i64 0, .int .i64 0]] w fun e w' => ∃ o, e = .returned (.tuple #[.pointer (some ⟨o, 0, none⟩), .int .i64 0]) ∧ WorldZ w' o ∧ Below w.heap.size w w' := by
  go_enter Try.func54, Try.ntmps54
  go_wp2_with fail
  refine (beyond72_any _).mono ?_
  rintro e w1 ⟨rfl, B1⟩
  have hbx := Blk.newAt (w := w) (b := w.heap.size) rfl 89 [.int .i64 0, .int .i64 0, .int .i64 0]
  have x1 := hbx.below B1 (by simp)
  have c0 := x1.cell 0
  have c1 := x1.cell 1
  have c2 := x1.cell 2
  simp only [List.getElem?_cons_zero, List.getElem?_cons_succ] at c0 c1 c2
  have B0 : Below w.heap.size w w1 := ((Below.refl _ w).alloc (Nat.le_refl _) _).trans (B1.mono (by simp))
  clear B1 hbx
  have hw1 := Blk.newAt (w := w1) (b := w1.heap.size) rfl 119 (wcells (.pointer none) (.pointer none) (.pointer none))
  go_wp2_with fail
  refine (new73_any _).mono ?_
  rintro e w2 ⟨pb, sb, rfl, hpb, B2, gpb, gsb⟩
  have hw2 := hw1.below B2 (by simp)
  have B02 := (B0.alloc B0.size (.cells (wcells (.pointer none) (.pointer none) (.pointer none)).toArray 119)).trans (B2.mono (by have := B0.size; simp; omega))
  have d2 := hw2.cell 4
  have k2 := hw2.frozen 4
  simp only [wcells, List.getElem?_cons_zero, List.getElem?_cons_succ] at d2
  clear hw1 B2 x1 c0 c1 c2
  have ho1 := hw2.lt
  simp only [World.size_alloc] at gpb gsb
  go_wp2_with fail
  have hw3 := hw2.set 4 (.pointer (some ⟨pb, 0, none⟩))
  have hp3 := hpb.ne (a := ⟨w1.heap.size, 4, none⟩) (by simp; omega) (by simp; omega) (.pointer (some ⟨pb, 0, none⟩))
  have B03 := B02.setCell (p := ⟨w1.heap.size, 4, none⟩) (by have := B0.size; simp; omega) (.pointer (some ⟨pb, 0, none⟩))
  clear hw2 d2 k2 hpb
  refine (new74_any _).mono ?_
  rintro e w4 ⟨pj, sj, rfl, hpj, B4, gpj, gsj⟩
  have hw4 := hw3.below B4 hw3.lt
  have hp4 := hp3.new B4
  have B04 := B03.trans (B4.mono B03.size)
  have d4 := hw4.cell 5
  have k4 := hw4.frozen 5
  simp only [wcells, List.getElem?_cons_zero, List.getElem?_cons_succ, List.set_cons_zero, List.set_cons_succ] at d4 hw4
  have l3 := hp3.lt
  simp only [World.size_setCell] at gpj gsj l3
  clear hw3 hp3 B4 B03 B02
  go_wp2_with fail
  have hw5 := hw4.set 5 (.pointer (some ⟨pj, 0, none⟩))
  have hp5 := hp4.ne (a := ⟨w1.heap.size, 5, none⟩) (by simp; omega) (by simp; omega) (.pointer (some ⟨pj, 0, none⟩))
  have hj5 := hpj.ne (a := ⟨w1.heap.size, 5, none⟩) (by simp; omega) (by simp; omega) (.pointer (some ⟨pj, 0, none⟩))
  have B05 := B04.setCell (p := ⟨w1.heap.size, 5, none⟩) (by have := B0.size; simp; omega) (.pointer (some ⟨pj, 0, none⟩))
  clear hw4 d4 k4 hp4 hpj
  refine (qnew256 _).mono ?_
  rintro e w6 ⟨q, g, rfl, _, B6, gq, gg⟩
  have hw6 := hw5.below B6 hw5.lt
  have hp6 := hp5.new B6
  have hj6 := hj5.new B6
  have B06 := B05.trans (B6.mono B05.size)
  have d6 := hw6.cell 7
  have k6 := hw6.frozen 7
  simp only [List.getElem?_cons_zero, List.getElem?_cons_succ, List.set_cons_zero, List.set_cons_succ] at d6 hw6
  clear hw5 hp5 hj5 B05
  go_wp2
  go_ret2
  refine ⟨w1.heap.size, rfl, ⟨pb, sb, pj, sj, q, hw6.set 7 _, hp6.ne (by simp; omega) (by simp; omega) _, hj6.ne (by simp; omega) (by simp; omega) _⟩, B06.setCell (by have := B0.size; simp; omega) _⟩
end Go.Proofs.Ytlcmjpligaiadaa
