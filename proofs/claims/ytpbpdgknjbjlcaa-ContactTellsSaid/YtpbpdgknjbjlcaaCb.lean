/- Contacts: the guard of Sizes. -/
import Derived.Test.YtpbpdgknjbjlcaaC5
namespace Go.Proofs.Ytpbpdgknjbjlcaa
open Go.RowKit
set_option maxRecDepth 100000 in
theorem sizes9_far (p : Pt) (w : World) (hp : nearB 16777216 p = false) : Calls Try.prog 9 #[ptV p] w fun e w' => e = .returned (.tuple #[.int .i64 0, .int .i64 0]) ∧ Below w.heap.size w w' := by
  have B0 : Below w.heap.size w (w.alloc (.cells p.cells.toArray 26)) := (Below.refl _ w).alloc (Nat.le_refl _) _
  have hbk := Blk.newAt (w := w) (b := w.heap.size) rfl 26 p.cells
  have Hp := Lib.hid hp
  clear hp
  go_enter Try.func9, Try.ntmps9
  go_upto_region 1 with (fail)
  obtain ⟨w1, hw1⟩ : ∃ w1, w.alloc (.cells p.cells.toArray 26) = w1 := ⟨_, rfl⟩
  change Code.wp _ _ _ _ (w.alloc (.cells p.cells.toArray 26))
  rw [hw1] at B0 hbk ⊢
  clear hw1
  have HQ : Hid (∀ W, Below w1.heap.size w1 W → (fun W => W.cell? ⟨w.heap.size, 0, none⟩ = some (.int .i64 p.x) ∧ W.cell? ⟨w.heap.size, 1, none⟩ = some (.int .i64 p.y) ∧ W.cell? ⟨w.heap.size, 2, none⟩ = some (.int .i64 p.z)) W) := Lib.hid fun W hW => by
    have h := hbk.below hW hbk.lt
    exact ⟨h.cell 0, h.cell 1, h.cell 2⟩
  have HBc := (Below.refl w1.heap.size w1).drew
  have hs1 := B0.size
  have HB0 := Lib.hid B0
  clear hbk B0
  go_region_held3 (fun W => W.cell? ⟨w.heap.size, 0, none⟩ = some (.int .i64 p.x) ∧ W.cell? ⟨w.heap.size, 1, none⟩ = some (.int .i64 p.y) ∧ W.cell? ⟨w.heap.size, 2, none⟩ = some (.int .i64 p.z)) (first | with_reducible exact HQ.out _ HBc | exact HQ.out _ HBc)
    (first
      | (go_at_call 33; with_reducible refine (beyond33_any 16777216 _).mono ?_; rintro e wn ⟨rfl, rfl⟩; have hbn := Blk.newAt (w := w1.drew) (b := w1.drew.heap.size) rfl 3 [.int .i64 16777216]; replace HBc := HBc.alloc HBc.size (.cells #[.int .i64 16777216] 3))
      | (go_at_call 52; refine (beyond52_any p 16777216 _ _ (by decide) (by decide) hbn).mono ?_; rintro e wm ⟨rfl, hBm⟩; rw [Hp.out]; replace HBc := HBc.trans (hBm.mono HBc.size); clear hBm))
  go_wp2
  go_ret2
  exact ⟨rfl, HB0.out.trans (HBc.mono hs1)⟩
set_option maxRecDepth 100000 in
theorem sizes20_far (p : Pt) (w : World) (hp : nearB 16777216 p = false) : Calls Try.prog 20 #[ptV p] w fun e w' => e = .returned (.tuple #[.int .i64 0, .int .i64 0]) ∧ Below w.heap.size w w' := by
  have B0 : Below w.heap.size w (w.alloc (.cells p.cells.toArray 26)) := (Below.refl _ w).alloc (Nat.le_refl _) _
  have Hp := Lib.hid hp
  have HB0 := Lib.hid B0
  have hs := B0.size
  clear hp B0
  go_enter Try.func20, Try.ntmps20
  go_wp2_with fail
  refine (in43_any p 16777216 _ (by decide) (by decide)).mono ?_
  rintro e w2 ⟨rfl, hB2⟩
  rw [Hp.out]
  have HB2 := Lib.hid (HB0.out.trans (hB2.mono hs))
  clear hB2
  go_wp2
  go_ret2
  exact ⟨rfl, HB2.out⟩
end Go.Proofs.Ytpbpdgknjbjlcaa
/- Contacts: the reference's Sizes of a near point. -/
namespace Go.Proofs.Ytpbpdgknjbjlcaa
open Go.RowKit
def IsRoot (s r : Int) : Prop := 0 ≤ r ∧ r * r ≤ s ∧ s < (r + 1) * (r + 1)
theorem sq_nonneg (x : Int) : 0 ≤ x * x := by
  have := Int.natAbs_mul_self (a := x)
  omega
theorem dot_self {p : Pt} (hp : Near 16777216 p) : 0 ≤ dotP p p ∧ dotP p p ≤ 844424930131968 := by
  have h := dot_near hp hp
  have h1 := sq_nonneg p.x
  have h2 := sq_nonneg p.y
  have h3 := sq_nonneg p.z
  unfold dotP at *
  omega
set_option maxRecDepth 100000 in
theorem sizes20_near (p : Pt) (w : World) (hp : Near 16777216 p) : Calls Try.prog 20 #[ptV p] w fun e w' => (∃ r, IsRoot (dotP p p) r ∧ e = .returned (.tuple #[.int .i64 r, .int .i64 (if r * r = dotP p p then r else r + 1)])) ∧ Below w.heap.size w w' := by
  have B0 : Below w.heap.size w (w.alloc (.cells p.cells.toArray 26)) := (Below.refl _ w).alloc (Nat.le_refl _) _
  have hbk := Blk.newAt (w := w) (b := w.heap.size) rfl 26 p.cells
  have Hp := Lib.hid hp
  have HB0 := Lib.hid B0
  have hs := B0.size
  have hds := dot_self hp
  obtain ⟨s, hsd⟩ : ∃ s, s = dotP p p := ⟨_, rfl⟩
  rw [← hsd] at hds ⊢
  have Hs := Lib.hid hsd
  have Hbk := Lib.hid hbk
  obtain ⟨s0, s1⟩ := hds
  clear hp B0 hbk hsd
  go_enter Try.func20, Try.ntmps20
  go_wp2_with fail
  refine (in43_any p 16777216 _ (by decide) (by decide)).mono ?_
  rintro e w2 ⟨rfl, hB2⟩
  rw [nearB_iff.2 Hp.out]
  have HB2 := Lib.hid (HB0.out.trans (hB2.mono hs))
  have hb2 := Hbk.out.below hB2 Hbk.out.lt
  have c0 : _ = some (Value.int .i64 p.x) := hb2.cell 0
  have c1 : _ = some (Value.int .i64 p.y) := hb2.cell 1
  have c2 : _ = some (Value.int .i64 p.z) := hb2.cell 2
  clear hB2 hb2
  go_wp2_with fail
  refine (dot26_any p p w2 (near_mono Hp.out (by decide)) (near_mono Hp.out (by decide))).mono ?_
  rintro e w3 ⟨rfl, hB3⟩
  rw [← Hs.out]
  have HB3 := Lib.hid (HB2.out.trans (hB3.mono HB2.out.size))
  clear hB3 c0 c1 c2
  go_wp2_with fail
  go_loopw [6, 7] (fun a b wr => ∃ lo hi : Int, a = .int .i64 lo ∧ b = .int .i64 hi ∧ 0 ≤ lo ∧ lo < hi ∧ hi ≤ 67108864 ∧ Hid (lo * lo ≤ s) ∧ Hid (s < hi * hi) ∧ wr = w3) (fun a b _ => (intOf b - intOf a).toNat)
  case atStart => exact ⟨0, 67108864, rfl, rfl, by decide, by decide, by decide, Lib.hid (by omega), Lib.hid (by omega), rfl⟩
  case round =>
    obtain ⟨lo, hi, rfl, rfl, h0, h1, h2, h3, h4, rfl⟩ := hrel
    by_cases hgt : 1 < hi - lo
    · obtain ⟨m, hm⟩ : ∃ m, m = (lo + hi) / 2 := ⟨_, rfl⟩
      have htd : Int.tdiv (lo + hi) 2 = m := by rw [Int.tdiv_eq_ediv_of_nonneg (by omega), hm]
      have m1 : lo < m := by omega
      have m2 : m < hi := by omega
      have hmm := mul_near (K := 67108864) (a := m) (b := m) (by omega) (by omega)
      have e1 := IntWalk.i64_in (m * m) (by omega)
      have e2 := IntWalk.i64_in (lo + hi) (by omega)
      clear hm hmm
      by_cases hle : m * m ≤ s
      · have H3 := Lib.hid hle
        go_wp2
        go_roundw
        case rel => exact ⟨m, hi, rfl, rfl, by omega, by omega, h2, H3, h4, trivial⟩
        case measure => simp [intOf]; omega
      · have H4 : Hid (s < m * m) := Lib.hid (by omega)
        go_wp2
        go_roundw
        case rel => exact ⟨lo, m, rfl, rfl, h0, by omega, by omega, h3, H4, trivial⟩
        case measure => simp [intOf]; omega
    · obtain rfl : hi = lo + 1 := by omega
      have hr : Hid (IsRoot s lo) := Lib.hid ⟨h0, h3.out, h4.out⟩
      have hmm := mul_near (K := 67108864) (a := lo) (b := lo) (by omega) (by omega)
      have e1 := IntWalk.i64_in (lo * lo) (by omega)
      clear hmm
      by_cases heq : lo * lo = s
      · have hr2 : Hid ((if lo * lo = s then lo else lo + 1) = lo) := Lib.hid (if_pos heq)
        have eb : (lo * lo == s) = true := by simp [heq]
        clear heq
        go_wp2
        go_ret2
        exact ⟨⟨lo, hr.out, by rw [hr2.out]; rfl⟩, HB3.out⟩
      · have hr2 : Hid ((if lo * lo = s then lo else lo + 1) = lo + 1) := Lib.hid (if_neg heq)
        have eb : (lo * lo == s) = false := by simp [heq]
        clear heq
        go_wp2
        go_ret2
        exact ⟨⟨lo, hr.out, by rw [hr2.out]; rfl⟩, HB3.out⟩
end Go.Proofs.Ytpbpdgknjbjlcaa
/- Contacts: the bit-or of a multiple and a bit. -/
namespace Go.Proofs.Ytpbpdgknjbjlcaa
open Go.RowKit
theorem mod64 (X : Nat) (h : X < 4611686018427387904) : ((X : Int) % 2 ^ IntKind.i64.bits).toNat = X := by
  have e : ((2 : Int) ^ IntKind.i64.bits) = 18446744073709551616 := by decide
  rw [e, Int.emod_eq_of_lt (by omega) (by omega)]
  rfl
theorem or_nat (X Y : Nat) (hX : X < 4611686018427387904) (hY : Y < 4611686018427387904) (hZ : X ||| Y < 4611686018427387904) : bits BinOp.or IntKind.i64 (X : Int) (Y : Int) = ((X ||| Y : Nat) : Int) := by
  unfold bits
  simp only [BitVec.toNat_or, BitVec.toNat_ofInt, Int.natCast_pow, Int.cast_ofNat_Int]
  rw [mod64 X hX, mod64 Y hY]
  exact IntWalk.i64_in _ (by omega)
theorem or_bit (j a : Nat) (h : 2 ^ (j + 1) * a + 2 ^ j < 4611686018427387904) : bits BinOp.or IntKind.i64 ((2 ^ (j + 1) * a : Nat) : Int) ((2 ^ j : Nat) : Int) = ((2 ^ (j + 1) * a + 2 ^ j : Nat) : Int) := by
  have hlt : 2 ^ j < 2 ^ (j + 1) := Nat.pow_lt_pow_right (by decide) (Nat.lt_succ_self j)
  have e := Nat.two_pow_add_eq_or_of_lt hlt a
  rw [or_nat _ _ (by omega) (by omega) (by rw [← e]; exact h), ← e]
end Go.Proofs.Ytpbpdgknjbjlcaa
/- Contacts: Sizes of a near point. -/
namespace Go.Proofs.Ytpbpdgknjbjlcaa
open Go.RowKit
/-- The root with its bits from 2^e on. -/
def Part (s : Int) (e : Nat) (r : Int) : Prop := (∃ a : Nat, r = ((2 ^ e * a : Nat) : Int)) ∧ r * r ≤ s ∧ s < (r + ((2 ^ e : Nat) : Int)) * (r + ((2 ^ e : Nat) : Int))
def bitOf : Nat → Int
  | 0 => 0
  | j + 1 => ((2 ^ j : Nat) : Int)
theorem part_zero {s r : Int} (h : Part s 0 r) : IsRoot s r := by
  obtain ⟨⟨a, rfl⟩, h1, h2⟩ := h
  exact ⟨by omega, h1, by simpa using h2⟩
theorem part_yes {s r : Int} {j : Nat} (h : Part s (j + 1) r) (ht : (r + bitOf (j + 1)) * (r + bitOf (j + 1)) ≤ s) : Part s j (r + bitOf (j + 1)) := by
  obtain ⟨⟨a, rfl⟩, h1, h2⟩ := h
  refine ⟨⟨2 * a + 1, ?_⟩, ht, ?_⟩
  · show ((2 ^ (j + 1) * a : Nat) : Int) + ((2 ^ j : Nat) : Int) = _
    rw [← Int.natCast_add]
    congr 1
    rw [Nat.pow_succ, Nat.mul_add, Nat.mul_one, Nat.mul_assoc]
  · have e : ((2 ^ (j + 1) * a : Nat) : Int) + bitOf (j + 1) + ((2 ^ j : Nat) : Int) = ((2 ^ (j + 1) * a : Nat) : Int) + ((2 ^ (j + 1) : Nat) : Int) := by
      show _ + ((2 ^ j : Nat) : Int) + _ = _
      rw [Nat.pow_succ 2 j]
      omega
    rw [e]
    exact h2
theorem part_no {s r : Int} {j : Nat} (h : Part s (j + 1) r) (ht : s < (r + bitOf (j + 1)) * (r + bitOf (j + 1))) : Part s j r := by
  obtain ⟨⟨a, rfl⟩, h1, h2⟩ := h
  refine ⟨⟨2 * a, ?_⟩, h1, ht⟩
  congr 1
  rw [Nat.pow_succ, Nat.mul_assoc]
end Go.Proofs.Ytpbpdgknjbjlcaa
/- Contacts: Sizes of a near point, walked. -/
namespace Go.Proofs.Ytpbpdgknjbjlcaa
open Go.RowKit
set_option maxRecDepth 100000 in
theorem sizes9_near (p : Pt) (w : World) (hp : Near 16777216 p) : Calls Try.prog 9 #[ptV p] w fun e w' => (∃ r, IsRoot (dotP p p) r ∧ e = .returned (.tuple #[.int .i64 r, .int .i64 (if r * r < dotP p p then r + 1 else r)])) ∧ Below w.heap.size w w' := by
  have B0 : Below w.heap.size w (w.alloc (.cells p.cells.toArray 26)) := (Below.refl _ w).alloc (Nat.le_refl _) _
  have hbk := Blk.newAt (w := w) (b := w.heap.size) rfl 26 p.cells
  have Hp := Lib.hid hp
  have hds := dot_self hp
  obtain ⟨s, hsd⟩ : ∃ s, s = dotP p p := ⟨_, rfl⟩
  rw [← hsd] at hds ⊢
  have Hs := Lib.hid hsd
  obtain ⟨s0, s1⟩ := hds
  clear hp hsd
  go_enter Try.func9, Try.ntmps9
  go_upto_region 1 with (fail)
  obtain ⟨w1, hw1⟩ : ∃ w1, w.alloc (.cells p.cells.toArray 26) = w1 := ⟨_, rfl⟩
  change Code.wp _ _ _ _ (w.alloc (.cells p.cells.toArray 26))
  rw [hw1] at B0 hbk ⊢
  clear hw1
  have HQ : Hid (∀ W, Below w1.heap.size w1 W → (fun W => W.cell? ⟨w.heap.size, 0, none⟩ = some (.int .i64 p.x) ∧ W.cell? ⟨w.heap.size, 1, none⟩ = some (.int .i64 p.y) ∧ W.cell? ⟨w.heap.size, 2, none⟩ = some (.int .i64 p.z)) W) := Lib.hid fun W hW => by
    have h := hbk.below hW hbk.lt
    exact ⟨h.cell 0, h.cell 1, h.cell 2⟩
  have HBc := (Below.refl w1.heap.size w1).drew
  have hs1 := B0.size
  have HB0 := Lib.hid B0
  clear hbk B0
  go_region_held3 (fun W => W.cell? ⟨w.heap.size, 0, none⟩ = some (.int .i64 p.x) ∧ W.cell? ⟨w.heap.size, 1, none⟩ = some (.int .i64 p.y) ∧ W.cell? ⟨w.heap.size, 2, none⟩ = some (.int .i64 p.z)) (first | with_reducible exact HQ.out _ HBc | exact HQ.out _ HBc)
    (first
      | (go_at_call 33; with_reducible refine (beyond33_any 16777216 _).mono ?_; rintro e wn ⟨rfl, rfl⟩; have hbn := Blk.newAt (w := w1.drew) (b := w1.drew.heap.size) rfl 3 [.int .i64 16777216]; replace HBc := HBc.alloc HBc.size (.cells #[.int .i64 16777216] 3))
      | (go_at_call 52; refine (beyond52_any p 16777216 _ _ (by decide) (by decide) hbn).mono ?_; rintro e wm ⟨rfl, hBm⟩; rw [nearB_iff.2 Hp.out]; replace HBc := HBc.trans (hBm.mono HBc.size); clear hBm))
  have HBm := Lib.hid (HB0.out.trans (HBc.mono hs1))
  obtain ⟨c0, c1, c2⟩ := HQ.out wm HBc
  clear HQ HBc hbn HB0 hs1
  go_wp2_with fail
  refine (dot34_any p p wm (near_mono Hp.out (by decide)) (near_mono Hp.out (by decide))).mono ?_
  rintro e w3 ⟨rfl, hB3⟩
  rw [← Hs.out]
  have HB3 := Lib.hid (HBm.out.trans (hB3.mono HBm.out.size))
  clear hB3 c0 c1 c2 HBm
  go_wp2_with fail
  go_loopw [5, 6] (fun a b wr => ∃ (r : Int) (e : Nat), a = .int .i64 r ∧ b = .int .i64 (bitOf e) ∧ e ≤ 26 ∧ Hid (Part s e r) ∧ wr = w3) (fun _ b _ => (intOf b).toNat)
  case atStart => exact ⟨0, 26, rfl, rfl, by decide, Lib.hid ⟨⟨0, rfl⟩, by omega, by simp; omega⟩, rfl⟩
  case round =>
    obtain ⟨r, e, rfl, rfl, he, hP, rfl⟩ := hrel
    have hr0 : 0 ≤ r := by
      obtain ⟨⟨a, h⟩, _⟩ := hP.out
      omega
    have hr1 : r ≤ 67108864 := by
      have h1 := hP.out.2.1
      rcases Int.lt_or_le 67108864 r with h | h
      · have := Int.mul_le_mul (show (67108864 : Int) ≤ r by omega) (show (67108864 : Int) ≤ r by omega) (by decide) (by omega)
        omega
      · exact h
    cases e with
    | zero =>
      have hroot := Lib.hid (part_zero hP.out)
      have hmm := mul_near (K := 67108864) (a := r) (b := r) (by omega) (by omega)
      have e1 := IntWalk.i64_in (r * r) (by omega)
      have hz : bitOf 0 = 0 := rfl
      rw [hz]
      clear hmm hz hP
      by_cases hlt : r * r < s
      · have hr2 : Hid ((if r * r < s then r + 1 else r) = r + 1) := Lib.hid (if_pos hlt)
        go_wp2
        go_ret2
        exact ⟨⟨r, hroot.out, by rw [hr2.out]; rfl⟩, HB3.out⟩
      · have hr2 : Hid ((if r * r < s then r + 1 else r) = r) := Lib.hid (if_neg hlt)
        go_wp2
        go_ret2
        exact ⟨⟨r, hroot.out, by rw [hr2.out]; rfl⟩, HB3.out⟩
    | succ j =>
      have hpw : 2 ^ j ≤ 2 ^ 25 := Nat.pow_le_pow_right (by decide) (by omega)
      have hpw1 : 1 ≤ 2 ^ j := Nat.one_le_two_pow
      have hor : bits BinOp.or IntKind.i64 r (bitOf (j + 1)) = r + bitOf (j + 1) := by
        obtain ⟨⟨a, h⟩, _⟩ := hP.out
        rw [h] at hr1 ⊢
        have := or_bit j a (by have h25 : (2 : Nat) ^ 25 = 33554432 := by decide
                               omega)
        rw [show bitOf (j + 1) = ((2 ^ j : Nat) : Int) from rfl, this, Int.natCast_add]
      have hdiv : bitOf (j + 1) / 2 = bitOf j := by
        cases j with
        | zero => rfl
        | succ i =>
          show ((2 ^ (i + 1) : Nat) : Int) / 2 = ((2 ^ i : Nat) : Int)
          rw [Nat.pow_succ]
          omega
      have hy := @part_yes s r j hP.out
      have hn := @part_no s r j hP.out
      have hb1 : 1 ≤ bitOf (j + 1) ∧ bitOf (j + 1) ≤ 33554432 := by
        show 1 ≤ ((2 ^ j : Nat) : Int) ∧ ((2 ^ j : Nat) : Int) ≤ 33554432
        have h25 : (2 : Nat) ^ 25 = 33554432 := by decide
        omega
      have hb3 : 0 ≤ bitOf j ∧ bitOf j < bitOf (j + 1) := by omega
      have Hy := Lib.hid hy
      have Hn := Lib.hid hn
      clear hy hn hpw hpw1 hP
      generalize bitOf (j + 1) = B at *
      obtain ⟨b1, b2⟩ := hb1
      obtain ⟨b3, b4⟩ := hb3
      have hmm := mul_near (K := 134217728) (a := r + B) (b := r + B) (by omega) (by omega)
      have e1 := IntWalk.i64_in ((r + B) * (r + B)) (by omega)
      clear hmm
      by_cases hle : (r + B) * (r + B) ≤ s
      · have H := Lib.hid (Hy.out hle)
        clear Hy Hn
        go_wp2
        go_roundw
        case rel => exact ⟨r + B, j, rfl, rfl, by omega, H, trivial⟩
        case measure => simp [intOf]; omega
      · have H := Lib.hid (Hn.out (by omega))
        clear Hy Hn
        go_wp2
        go_roundw
        case rel => exact ⟨r, j, rfl, rfl, by omega, H, trivial⟩
        case measure => simp [intOf]; omega
end Go.Proofs.Ytpbpdgknjbjlcaa
/- Contacts: the root is one; Sizes of both, told as a function of the point. -/
namespace Go.Proofs.Ytpbpdgknjbjlcaa
open Go.RowKit
theorem root_le {s r q : Int} (h : IsRoot s r) (k : IsRoot s q) : r ≤ q := by
  obtain ⟨h0, h1, _⟩ := h
  obtain ⟨k0, _, k2⟩ := k
  rcases Int.lt_or_le q r with hlt | hle
  · have := Int.mul_le_mul (show q + 1 ≤ r by omega) (show q + 1 ≤ r by omega) (by omega) h0
    omega
  · exact hle
theorem root_one {s r q : Int} (h : IsRoot s r) (k : IsRoot s q) : r = q := by
  have := root_le h k
  have := root_le k h
  omega
theorem root_ex (s : Nat) : ∃ r, IsRoot (s : Int) r := by
  induction s with
  | zero => exact ⟨0, by decide, by decide, by decide⟩
  | succ s ih =>
    obtain ⟨r, h0, h1, h2⟩ := ih
    by_cases h : (s : Int) + 1 < (r + 1) * (r + 1)
    · exact ⟨r, h0, by omega, by omega⟩
    · refine ⟨r + 1, by omega, by omega, ?_⟩
      have e : (r + 1 + 1) * (r + 1 + 1) = (r + 1) * (r + 1) + (2 * r + 3) := by
        simp only [Int.mul_add, Int.add_mul]
        omega
      rw [e]
      omega
open Classical in
noncomputable def rootP (s : Int) : Int := if h : ∃ r, IsRoot s r then h.choose else 0
theorem root_is {s : Int} (hs : 0 ≤ s) : IsRoot s (rootP s) := by
  have h : ∃ r, IsRoot s r := by
    obtain ⟨r, hr⟩ := root_ex s.toNat
    rw [Int.toNat_of_nonneg hs] at hr
    exact ⟨r, hr⟩
  unfold rootP
  rw [dif_pos h]
  exact h.choose_spec
theorem root_eq {s r : Int} (hs : 0 ≤ s) (h : IsRoot s r) : r = rootP s := root_one h (root_is hs)
/-- A direction's size, down and up. -/
noncomputable def smallP (n : Pt) : Int := if nearB 16777216 n then rootP (dotP n n) else 0
noncomputable def upP (n : Pt) : Int := if nearB 16777216 n then (if rootP (dotP n n) * rootP (dotP n n) = dotP n n then rootP (dotP n n) else rootP (dotP n n) + 1) else 0
theorem sizes9_any (p : Pt) (w : World) : Calls Try.prog 9 #[ptV p] w fun e w' => e = .returned (.tuple #[.int .i64 (smallP p), .int .i64 (upP p)]) ∧ Below w.heap.size w w' := by
  cases h : nearB 16777216 p with
  | false =>
    refine (sizes9_far p w h).mono ?_
    rintro e w' ⟨rfl, hB⟩
    exact ⟨by simp [smallP, upP, h], hB⟩
  | true =>
    have hs := (dot_self (nearB_iff.1 h)).1
    refine (sizes9_near p w (nearB_iff.1 h)).mono ?_
    rintro e w' ⟨⟨r, hr, rfl⟩, hB⟩
    have e2 := root_eq hs hr
    subst e2
    refine ⟨?_, hB⟩
    have h1 := (root_is hs).2.1
    simp only [smallP, upP, h, if_true]
    congr 4
    split <;> split <;> first | rfl | omega
theorem sizes20_any (p : Pt) (w : World) : Calls Try.prog 20 #[ptV p] w fun e w' => e = .returned (.tuple #[.int .i64 (smallP p), .int .i64 (upP p)]) ∧ Below w.heap.size w w' := by
  cases h : nearB 16777216 p with
  | false =>
    refine (sizes20_far p w h).mono ?_
    rintro e w' ⟨rfl, hB⟩
    exact ⟨by simp [smallP, upP, h], hB⟩
  | true =>
    have hs := (dot_self (nearB_iff.1 h)).1
    refine (sizes20_near p w (nearB_iff.1 h)).mono ?_
    rintro e w' ⟨⟨r, hr, rfl⟩, hB⟩
    have e2 := root_eq hs hr
    subst e2
    exact ⟨by simp only [smallP, upP, h, if_true], hB⟩
/-- The root of a long direction lies between the sizes of its parts. -/
theorem small_range (p : Pt) : 0 ≤ smallP p ∧ smallP p ≤ 33554432 ∧ smallP p ≤ upP p ∧ upP p ≤ smallP p + 1 := by
  unfold smallP upP
  cases h : nearB 16777216 p with
  | false => simp
  | true =>
    have hs := dot_self (nearB_iff.1 h)
    obtain ⟨h0, h1, h2⟩ := root_is hs.1
    simp only [if_true]
    refine ⟨h0, ?_, ?_⟩
    · rcases Int.lt_or_le 33554432 (rootP (dotP p p)) with hh | hh
      · have := Int.mul_le_mul (show (33554432 : Int) ≤ rootP (dotP p p) by omega) (show (33554432 : Int) ≤ rootP (dotP p p) by omega) (by decide) (by omega)
        omega
      · exact hh
    · split <;> omega
theorem up_pos {p : Pt} (h : smallP p ≠ 0) : 1 ≤ smallP p ∧ 1 ≤ upP p ∧ nearB 16777216 p = true := by
  have := small_range p
  refine ⟨by omega, by omega, ?_⟩
  cases hn : nearB 16777216 p with
  | true => rfl
  | false => exact absurd (by simp [smallP, hn]) h
end Go.Proofs.Ytpbpdgknjbjlcaa
