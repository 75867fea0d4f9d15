/- Snap: the tape: vec, list of nothing, all of an empty world (the five lists printed by wip/gen/Sj.py). -/
import Derived.Test.YtlcmjpligaiadaaSi
namespace Go.Proofs.Ytlcmjpligaiadaa
open Go.RowKit
set_option maxRecDepth 100000 in
set_option maxHeartbeats 2000000 in
theorem vec_any (t : Nat) (v : Value) (m : Nat) (L : List Int) (hm : m ≤ 3000) (pb po : Nat) (hpb : pb < t) (x0 x1 x2 : Int) (w : World) (hT : Tape w t v m L)
    (y0 : w.cell? ⟨pb, po, none⟩ = some (.int .i64 x0)) (y1 : w.cell? ⟨pb, po + 1, none⟩ = some (.int .i64 x1)) (y2 : w.cell? ⟨pb, po + 2, none⟩ = some (.int .i64 x2)) :
    Calls Try.prog 94 #[.pointer (some ⟨t, 0, none⟩), .pointer (some ⟨pb, po, none⟩)] w (NumsT t (m + 3) (L ++ [x0, x1, x2]) w) := by
  have hpw : pb < w.heap.size := by have := hT.lt; omega
  have htw := hT.lt
  go_enter Try.func94, Try.ntmps94
  go_wp2
  go_region_with
    ((go_at_call 99
      have B1 : Below w.heap.size w (w.drew.alloc (.cells #[.pointer (some ⟨pb, po, none⟩), .pointer (some ⟨pb, po + 1, none⟩), .pointer (some ⟨pb, po + 2, none⟩)] 187)) := ((Below.refl _ w).drew).alloc (by simp) _
      refine (nums_any t v m L hm w.heap.size pb po hpb x0 x1 x2 _ (hT.new B1) (Blk.newAt (by simp) 187 [_, _, _]) ((B1.cell hpw).trans y0) ((B1.cell hpw).trans y1) ((B1.cell hpw).trans y2)).mono ?_
      rintro e w5 ⟨rfl, v5, hT5, hB5, hK5⟩
      have hB6 := (B1.mono (Nat.le_of_lt htw)).trans hB5
      have hK6 := (Keep.of_below B1).trans hK5))
  go_wp2
  exact bodyPost_end (v := .tuple #[]) (by simp [results, Try.f94, go_sem]) rfl ⟨rfl, v5, hT5, hB6, hK6⟩
set_option maxRecDepth 100000 in
set_option maxHeartbeats 2000000 in
theorem list97_any (t : Nat) (v : Value) (m : Nat) (L : List Int) (hm : m ≤ 3000) (pb po : Nat) (hpb : pb < t) (w : World) (hT : Tape w t v m L)
    (y0 : w.cell? ⟨pb, po, none⟩ = some (.slice none 0 0)) (most : Int) (f : Value) :
    Calls Try.prog 97 #[.pointer (some ⟨t, 0, none⟩), .pointer (some ⟨pb, po, none⟩), .int .i64 most, f] w (NumsT t (m + 1) (L ++ [0]) w) := by
  have hpw : pb < w.heap.size := by have := hT.lt; omega
  have htw := hT.lt
  go_enter Try.func97, Try.ntmps97
  go_wp2_with fail
  have B1 : Below w.heap.size w (w.alloc (.cells #[.int .i64 0] 3)) := (Below.refl _ w).alloc (by simp) _
  have hb := Blk.newAt (w := w) (b := w.heap.size) rfl 3 [.int .i64 0]
  have hT1 := hT.new B1
  refine (num_any t v m L (by omega) w.heap.size 0 0 _ _ _ hT1 (hb.cell 0)).mono ?_
  rintro e w1 ⟨rfl, v1, hT2, hM⟩
  have hne : w.heap.size ≠ t := by omega
  have hrow : ∀ j, v.ownBlock = some j → j < w.heap.size := fun j hj => own_lt hT.2 hj
  have hB2 : Below t w w1 := (B1.mono (Nat.le_of_lt htw)).trans (hT1.below hM)
  have y1 : w1.cell? ⟨w.heap.size, 0, none⟩ = some (.int .i64 0) := (hM.cell (p := ⟨w.heap.size, 0, none⟩) hb.lt (fun hS => by
    rcases hS with h | h
    · exact hne h
    · exact Nat.lt_irrefl _ (hrow _ h))).trans (hb.cell 0)
  have z2 := hT2.1.cell 2
  simp only [List.getElem?_cons_zero, List.getElem?_cons_succ] at z2
  go_wp2
  go_loopw [9] (fun i wr => i = .int .i64 0 ∧ wr = w1) (fun i _ => 0)
  case atStart => exact ⟨rfl, rfl⟩
  case round =>
    obtain ⟨rfl, rfl⟩ := hrel
    go_wp2
    exact bodyPost_end (v := .tuple #[]) (by simp [results, Try.f97, go_sem]) rfl ⟨rfl, v1, hT2, hB2, (Keep.of_below B1).trans (hT1.keep hM)⟩
set_option maxRecDepth 100000 in
set_option maxHeartbeats 2000000 in
theorem list100_any (t : Nat) (v : Value) (m : Nat) (L : List Int) (hm : m ≤ 3000) (pb po : Nat) (hpb : pb < t) (w : World) (hT : Tape w t v m L)
    (y0 : w.cell? ⟨pb, po, none⟩ = some (.slice none 0 0)) (most : Int) (f : Value) :
    Calls Try.prog 100 #[.pointer (some ⟨t, 0, none⟩), .pointer (some ⟨pb, po, none⟩), .int .i64 most, f] w (NumsT t (m + 1) (L ++ [0]) w) := by
  have hpw : pb < w.heap.size := by have := hT.lt; omega
  have htw := hT.lt
  go_enter Try.func100, Try.ntmps100
  go_wp2_with fail
  have B1 : Below w.heap.size w (w.alloc (.cells #[.int .i64 0] 3)) := (Below.refl _ w).alloc (by simp) _
  have hb := Blk.newAt (w := w) (b := w.heap.size) rfl 3 [.int .i64 0]
  have hT1 := hT.new B1
  refine (num_any t v m L (by omega) w.heap.size 0 0 _ _ _ hT1 (hb.cell 0)).mono ?_
  rintro e w1 ⟨rfl, v1, hT2, hM⟩
  have hne : w.heap.size ≠ t := by omega
  have hrow : ∀ j, v.ownBlock = some j → j < w.heap.size := fun j hj => own_lt hT.2 hj
  have hB2 : Below t w w1 := (B1.mono (Nat.le_of_lt htw)).trans (hT1.below hM)
  have y1 : w1.cell? ⟨w.heap.size, 0, none⟩ = some (.int .i64 0) := (hM.cell (p := ⟨w.heap.size, 0, none⟩) hb.lt (fun hS => by
    rcases hS with h | h
    · exact hne h
    · exact Nat.lt_irrefl _ (hrow _ h))).trans (hb.cell 0)
  have z2 := hT2.1.cell 2
  simp only [List.getElem?_cons_zero, List.getElem?_cons_succ] at z2
  go_wp2
  go_loopw [9] (fun i wr => i = .int .i64 0 ∧ wr = w1) (fun i _ => 0)
  case atStart => exact ⟨rfl, rfl⟩
  case round =>
    obtain ⟨rfl, rfl⟩ := hrel
    go_wp2
    exact bodyPost_end (v := .tuple #[]) (by simp [results, Try.f100, go_sem]) rfl ⟨rfl, v1, hT2, hB2, (Keep.of_below B1).trans (hT1.keep hM)⟩
set_option maxRecDepth 100000 in
set_option maxHeartbeats 2000000 in
theorem list104_any (t : Nat) (v : Value) (m : Nat) (L : List Int) (hm : m ≤ 3000) (pb po : Nat) (hpb : pb < t) (w : World) (hT : Tape w t v m L)
    (y0 : w.cell? ⟨pb, po, none⟩ = some (.slice none 0 0)) (most : Int) (f : Value) :
    Calls Try.prog 104 #[.pointer (some ⟨t, 0, none⟩), .pointer (some ⟨pb, po, none⟩), .int .i64 most, f] w (NumsT t (m + 1) (L ++ [0]) w) := by
  have hpw : pb < w.heap.size := by have := hT.lt; omega
  have htw := hT.lt
  go_enter Try.func104, Try.ntmps104
  go_wp2_with fail
  have B1 : Below w.heap.size w (w.alloc (.cells #[.int .i64 0] 3)) := (Below.refl _ w).alloc (by simp) _
  have hb := Blk.newAt (w := w) (b := w.heap.size) rfl 3 [.int .i64 0]
  have hT1 := hT.new B1
  refine (num_any t v m L (by omega) w.heap.size 0 0 _ _ _ hT1 (hb.cell 0)).mono ?_
  rintro e w1 ⟨rfl, v1, hT2, hM⟩
  have hne : w.heap.size ≠ t := by omega
  have hrow : ∀ j, v.ownBlock = some j → j < w.heap.size := fun j hj => own_lt hT.2 hj
  have hB2 : Below t w w1 := (B1.mono (Nat.le_of_lt htw)).trans (hT1.below hM)
  have y1 : w1.cell? ⟨w.heap.size, 0, none⟩ = some (.int .i64 0) := (hM.cell (p := ⟨w.heap.size, 0, none⟩) hb.lt (fun hS => by
    rcases hS with h | h
    · exact hne h
    · exact Nat.lt_irrefl _ (hrow _ h))).trans (hb.cell 0)
  have z2 := hT2.1.cell 2
  simp only [List.getElem?_cons_zero, List.getElem?_cons_succ] at z2
  go_wp2
  go_loopw [9] (fun i wr => i = .int .i64 0 ∧ wr = w1) (fun i _ => 0)
  case atStart => exact ⟨rfl, rfl⟩
  case round =>
    obtain ⟨rfl, rfl⟩ := hrel
    go_wp2
    exact bodyPost_end (v := .tuple #[]) (by simp [results, Try.f104, go_sem]) rfl ⟨rfl, v1, hT2, hB2, (Keep.of_below B1).trans (hT1.keep hM)⟩
set_option maxRecDepth 100000 in
set_option maxHeartbeats 2000000 in
theorem list107_any (t : Nat) (v : Value) (m : Nat) (L : List Int) (hm : m ≤ 3000) (pb po : Nat) (hpb : pb < t) (w : World) (hT : Tape w t v m L)
    (y0 : w.cell? ⟨pb, po, none⟩ = some (.slice none 0 0)) (most : Int) (f : Value) :
    Calls Try.prog 107 #[.pointer (some ⟨t, 0, none⟩), .pointer (some ⟨pb, po, none⟩), .int .i64 most, f] w (NumsT t (m + 1) (L ++ [0]) w) := by
  have hpw : pb < w.heap.size := by have := hT.lt; omega
  have htw := hT.lt
  go_enter Try.func107, Try.ntmps107
  go_wp2_with fail
  have B1 : Below w.heap.size w (w.alloc (.cells #[.int .i64 0] 3)) := (Below.refl _ w).alloc (by simp) _
  have hb := Blk.newAt (w := w) (b := w.heap.size) rfl 3 [.int .i64 0]
  have hT1 := hT.new B1
  refine (num_any t v m L (by omega) w.heap.size 0 0 _ _ _ hT1 (hb.cell 0)).mono ?_
  rintro e w1 ⟨rfl, v1, hT2, hM⟩
  have hne : w.heap.size ≠ t := by omega
  have hrow : ∀ j, v.ownBlock = some j → j < w.heap.size := fun j hj => own_lt hT.2 hj
  have hB2 : Below t w w1 := (B1.mono (Nat.le_of_lt htw)).trans (hT1.below hM)
  have y1 : w1.cell? ⟨w.heap.size, 0, none⟩ = some (.int .i64 0) := (hM.cell (p := ⟨w.heap.size, 0, none⟩) hb.lt (fun hS => by
    rcases hS with h | h
    · exact hne h
    · exact Nat.lt_irrefl _ (hrow _ h))).trans (hb.cell 0)
  have z2 := hT2.1.cell 2
  simp only [List.getElem?_cons_zero, List.getElem?_cons_succ] at z2
  go_wp2
  go_loopw [9] (fun i wr => i = .int .i64 0 ∧ wr = w1) (fun i _ => 0)
  case atStart => exact ⟨rfl, rfl⟩
  case round =>
    obtain ⟨rfl, rfl⟩ := hrel
    go_wp2
    exact bodyPost_end (v := .tuple #[]) (by simp [results, Try.f107, go_sem]) rfl ⟨rfl, v1, hT2, hB2, (Keep.of_below B1).trans (hT1.keep hM)⟩
set_option maxRecDepth 100000 in
set_option maxHeartbeats 2000000 in
theorem list110_any (t : Nat) (v : Value) (m : Nat) (L : List Int) (hm : m ≤ 3000) (pb po : Nat) (hpb : pb < t) (w : World) (hT : Tape w t v m L)
    (y0 : w.cell? ⟨pb, po, none⟩ = some (.slice none 0 0)) (most : Int) (f : Value) :
    Calls Try.prog 110 #[.pointer (some ⟨t, 0, none⟩), .pointer (some ⟨pb, po, none⟩), .int .i64 most, f] w (NumsT t (m + 1) (L ++ [0]) w) := by
  have hpw : pb < w.heap.size := by have := hT.lt; omega
  have htw := hT.lt
  go_enter Try.func110, Try.ntmps110
  go_wp2_with fail
  have B1 : Below w.heap.size w (w.alloc (.cells #[.int .i64 0] 3)) := (Below.refl _ w).alloc (by simp) _
  have hb := Blk.newAt (w := w) (b := w.heap.size) rfl 3 [.int .i64 0]
  have hT1 := hT.new B1
  refine (num_any t v m L (by omega) w.heap.size 0 0 _ _ _ hT1 (hb.cell 0)).mono ?_
  rintro e w1 ⟨rfl, v1, hT2, hM⟩
  have hne : w.heap.size ≠ t := by omega
  have hrow : ∀ j, v.ownBlock = some j → j < w.heap.size := fun j hj => own_lt hT.2 hj
  have hB2 : Below t w w1 := (B1.mono (Nat.le_of_lt htw)).trans (hT1.below hM)
  have y1 : w1.cell? ⟨w.heap.size, 0, none⟩ = some (.int .i64 0) := (hM.cell (p := ⟨w.heap.size, 0, none⟩) hb.lt (fun hS => by
    rcases hS with h | h
    · exact hne h
    · exact Nat.lt_irrefl _ (hrow _ h))).trans (hb.cell 0)
  have z2 := hT2.1.cell 2
  simp only [List.getElem?_cons_zero, List.getElem?_cons_succ] at z2
  go_wp2
  go_loopw [9] (fun i wr => i = .int .i64 0 ∧ wr = w1) (fun i _ => 0)
  case atStart => exact ⟨rfl, rfl⟩
  case round =>
    obtain ⟨rfl, rfl⟩ := hrel
    go_wp2
    exact bodyPost_end (v := .tuple #[]) (by simp [results, Try.f110, go_sem]) rfl ⟨rfl, v1, hT2, hB2, (Keep.of_below B1).trans (hT1.keep hM)⟩
set_option maxRecDepth 100000 in
theorem points_any (t : Nat) (v : Value) (m : Nat) (L : List Int) (hm : m ≤ 3000) (pb po : Nat) (hpb : pb < t) (w : World) (hT : Tape w t v m L)
    (y0 : w.cell? ⟨pb, po, none⟩ = some (.slice none 0 0)) :
    Calls Try.prog 96 #[.pointer (some ⟨t, 0, none⟩), .pointer (some ⟨pb, po, none⟩)] w (NumsT t (m + 1) (L ++ [0]) w) := by
  go_enter Try.func96, Try.ntmps96
  go_wp2_with fail
  refine (list110_any t v m L hm pb po hpb w hT y0 _ _).mono ?_
  rintro e w5 ⟨rfl, v5, hT5, hB5, hK5⟩
  go_wp2
  exact bodyPost_end (v := .tuple #[]) (by simp [results, Try.f96, go_sem]) rfl ⟨rfl, v5, hT5, hB5, hK5⟩
end Go.Proofs.Ytlcmjpligaiadaa
