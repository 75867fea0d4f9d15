/- Contacts: gaps, walked. -/
import Derived.Test.YtpbpdgknjbjlcaaCz
namespace Go.Proofs.Ytpbpdgknjbjlcaa
open Go.RowKit
/-- The least and the greatest of a list of points along a direction. -/
def loL (n : Pt) : List Pt → Int
  | [] => 0
  | x :: l => loP n x l
def hiL (n : Pt) : List Pt → Int
  | [] => 0
  | x :: l => hiP n x l
theorem lohi_range {d : Pt} (hd : Near 1048576 d) : ∀ (l : List Pt), (∀ p ∈ l, Near 16777216 p) → (-844424930131968 ≤ loL d l ∧ loL d l ≤ 844424930131968) ∧ (-844424930131968 ≤ hiL d l ∧ hiL d l ≤ 844424930131968)
  | [], _ => by simp [loL, hiL]
  | x :: l, h => ⟨lo24 (near_mono hd (by decide)) h, hi24 (near_mono hd (by decide)) h⟩
theorem long_small {d : Pt} (hd : Near 1048576 d) (hz : ¬ Zero d) : 1 ≤ smallP d := by
  have hn : nearB 16777216 d = true := nearB_iff.2 (near_mono hd (by decide))
  have hs := dot_self (nearB_iff.1 hn)
  obtain ⟨h0, h1, h2⟩ := root_is hs.1
  have hp : 1 ≤ dotP d d := by
    have e1 := sq_nonneg d.x
    have e2 := sq_nonneg d.y
    have e3 := sq_nonneg d.z
    have h3 : dotP d d ≠ 0 := by
      intro e
      apply hz
      unfold dotP at e
      have f1 : d.x * d.x = 0 := by omega
      have f2 : d.y * d.y = 0 := by omega
      have f3 : d.z * d.z = 0 := by omega
      exact ⟨(Int.mul_eq_zero.1 f1).elim id id, (Int.mul_eq_zero.1 f2).elim id id, (Int.mul_eq_zero.1 f3).elim id id⟩
    omega
  unfold smallP
  rw [hn, if_pos rfl]
  rcases Int.lt_or_le 0 (rootP (dotP d d)) with h | h
  · omega
  · have : rootP (dotP d d) = 0 := by omega
    rw [this] at h2
    omega
noncomputable def thereP (a b : Cor) (n : Pt) : Int := gapP (loL n b.P - hiL n a.P) (upP n) (smallP n) a.r b.r
noncomputable def backP (a b : Cor) (n : Pt) : Int := gapP (loL n a.P - hiL n b.P) (upP n) (smallP n) a.r b.r
set_option maxRecDepth 100000 in
theorem gaps31_any (pva ava eva pvb avb evb : Value) (a b : Cor) (n : Pt) (w : World) (ha : Rd w pva a.P.length 3 (ptCells a.P)) (hb : Rd w pvb b.P.length 3 (ptCells b.P)) (FA : MayF a) (FB : MayF b) (hn : Near 1048576 n) (hz : ¬ Zero n) :
    Calls Try.prog 31 #[corV pva ava eva a.r, corV pvb avb evb b.r, ptV n] w fun e w' => e = .returned (.tuple #[.int .i64 (thereP a b n), .int .i64 (backP a b n)]) ∧ Below w.heap.size w w' := by
  obtain ⟨xa, la, hxa⟩ : ∃ x l, a.P = x :: l := by
    cases h : a.P with
    | nil => have := FA.p0; rw [h] at this; simp at this
    | cons x l => exact ⟨x, l, rfl⟩
  obtain ⟨xb, lb, hxb⟩ : ∃ x l, b.P = x :: l := by
    cases h : b.P with
    | nil => have := FB.p0; rw [h] at this; simp at this
    | cons x l => exact ⟨x, l, rfl⟩
  have hra := lohi_range hn a.P FA.np
  have hrb := lohi_range hn b.P FB.np
  have hsm := long_small hn hz
  have hrg := small_range n
  have np : ∀ p ∈ xa :: la, Near 134217728 p := fun p hp => near_mono (FA.np p (by rw [hxa]; exact hp)) (by decide)
  have nq : ∀ p ∈ xb :: lb, Near 134217728 p := fun p hp => near_mono (FB.np p (by rw [hxb]; exact hp)) (by decide)
  obtain ⟨na, hna⟩ : ∃ na, na = a.P.length := ⟨_, rfl⟩
  obtain ⟨nb, hnb⟩ : ∃ nb, nb = b.P.length := ⟨_, rfl⟩
  have HC1 : Hid (∀ W, Below w.heap.size w W → Calls Try.prog 36 #[pva, ptV n] W fun e W' => e = .returned (.tuple #[.int .i64 (loL n a.P), .int .i64 (hiL n a.P)]) ∧ Below W.heap.size W W') := Lib.hid fun W hW => by
    have h := reach36_any pva a.P.length la xa n W (by rw [hxa]) (by have := ha.new hW; rw [hxa] at this ⊢; exact this) (near_mono hn (by decide)) np
    rw [hxa]
    exact h
  have HC2 : Hid (∀ W, Below w.heap.size w W → Calls Try.prog 36 #[pvb, ptV n] W fun e W' => e = .returned (.tuple #[.int .i64 (loL n b.P), .int .i64 (hiL n b.P)]) ∧ Below W.heap.size W W') := Lib.hid fun W hW => by
    have h := reach36_any pvb b.P.length lb xb n W (by rw [hxb]) (by have := hb.new hW; rw [hxb] at this ⊢; exact this) (near_mono hn (by decide)) nq
    rw [hxb]
    exact h
  obtain ⟨LA, hLA⟩ : ∃ v, v = loL n a.P := ⟨_, rfl⟩
  obtain ⟨GA, hGA⟩ : ∃ v, v = hiL n a.P := ⟨_, rfl⟩
  obtain ⟨LB, hLB⟩ : ∃ v, v = loL n b.P := ⟨_, rfl⟩
  obtain ⟨GB, hGB⟩ : ∃ v, v = hiL n b.P := ⟨_, rfl⟩
  obtain ⟨U, hU⟩ : ∃ v, v = upP n := ⟨_, rfl⟩
  obtain ⟨S, hS⟩ : ∃ v, v = smallP n := ⟨_, rfl⟩
  have ht : thereP a b n = gapP (LB - GA) U S a.r b.r := by rw [hLB, hGA, hU, hS]; rfl
  have hbk : backP a b n = gapP (LA - GB) U S a.r b.r := by rw [hLA, hGB, hU, hS]; rfl
  rw [ht, hbk]
  rw [← hLA, ← hGA] at HC1 hra
  rw [← hLB, ← hGB] at HC2 hrb
  have HC3 : Hid (∀ W, Calls Try.prog 9 #[ptV n] W fun e W' => e = .returned (.tuple #[.int .i64 S, .int .i64 U]) ∧ Below W.heap.size W W') := Lib.hid fun W => by rw [hS, hU]; exact sizes9_any n W
  rw [← hS] at hsm
  rw [← hS, ← hU] at hrg
  obtain ⟨⟨r0, r1⟩, r2, r3⟩ := hra
  obtain ⟨⟨r4, r5⟩, r6, r7⟩ := hrb
  have HRA := Lib.hid (And.intro FA.r0 FA.r1)
  have HRB := Lib.hid (And.intro FB.r0 FB.r1)
  have g1 := IntWalk.i64_in (LB - GA) (by omega)
  have g2 := IntWalk.i64_in (LA - GB) (by omega)
  have B0 : Below w.heap.size w (((w.alloc (.cells [pva, ava, eva, .int .i64 a.r].toArray 24)).alloc (.cells [pvb, avb, evb, .int .i64 b.r].toArray 24)).alloc (.cells n.cells.toArray 26)) := (((Below.refl _ w).alloc (Nat.le_refl _) _).alloc (by simp) _).alloc (by simp; omega) _
  have hb0 := ((Blk.newAt (w := w) (b := w.heap.size) rfl 24 [pva, ava, eva, .int .i64 a.r]).alloc (.cells [pvb, avb, evb, .int .i64 b.r].toArray 24)).alloc (.cells n.cells.toArray 26)
  have hb1 := (Blk.newAt (w := w.alloc (.cells [pva, ava, eva, .int .i64 a.r].toArray 24)) (b := w.heap.size + 1) (by simp) 24 [pvb, avb, evb, .int .i64 b.r]).alloc (.cells n.cells.toArray 26)
  have hb2 := Blk.newAt (w := (w.alloc (.cells [pva, ava, eva, .int .i64 a.r].toArray 24)).alloc (.cells [pvb, avb, evb, .int .i64 b.r].toArray 24)) (b := w.heap.size + 1 + 1) (by simp) 26 n.cells
  clear ha hb hxa hxb np nq hna hnb hLA hGA hLB hGB hU hS ht hbk hn hz
  obtain ⟨pa, rfl⟩ : ∃ pa : Value, pa = pva := ⟨_, rfl⟩
  obtain ⟨pb, rfl⟩ : ∃ pb : Value, pb = pvb := ⟨_, rfl⟩
  go_enter Try.func31, Try.ntmps31
  go_upto_region 1 with (fail)
  obtain ⟨w1, hw1⟩ : ∃ w1, (((w.alloc (.cells [pa, ava, eva, .int .i64 a.r].toArray 24)).alloc (.cells [pb, avb, evb, .int .i64 b.r].toArray 24)).alloc (.cells n.cells.toArray 26)) = w1 := ⟨_, rfl⟩
  change Code.wp _ _ _ _ (((w.alloc (.cells [pa, ava, eva, .int .i64 a.r].toArray 24)).alloc (.cells [pb, avb, evb, .int .i64 b.r].toArray 24)).alloc (.cells n.cells.toArray 26))
  rw [hw1] at B0 hb0 hb1 hb2 ⊢
  clear hw1
  obtain ⟨c0, hc0⟩ : ∃ c, c = w.heap.size := ⟨_, rfl⟩
  simp only [← hc0] at hb0 hb1 hb2 ⊢
  have Hc0 := Lib.hid hc0
  have HB1 := Lib.hid B0
  have hs1 := B0.size
  have k0 : _ = some pa := hb0.cell 0
  have n0 : _ = some (Value.int .i64 n.x) := hb2.cell 0
  have n1 : _ = some (Value.int .i64 n.y) := hb2.cell 1
  have n2 : _ = some (Value.int .i64 n.z) := hb2.cell 2
  have Hb0 := Lib.hid hb0
  have Hb1 := Lib.hid hb1
  have Hb2 := Lib.hid hb2
  clear hc0 B0 hb0 hb1 hb2
  go_wp2_with fail
  refine (HC1.out w1 HB1.out).mono ?_
  rintro e w2 ⟨rfl, hB2⟩
  have HB2 := Lib.hid (HB1.out.trans (hB2.mono hs1))
  have hs2 := HB2.out.size
  have hb0 := Hb0.out.below hB2 Hb0.out.lt
  have hb1 := Hb1.out.below hB2 Hb1.out.lt
  have hb2 := Hb2.out.below hB2 Hb2.out.lt
  clear k0 n0 n1 n2 hB2 Hb0 Hb1 Hb2
  have k0 : _ = some pb := hb1.cell 0
  have n0 : _ = some (Value.int .i64 n.x) := hb2.cell 0
  have n1 : _ = some (Value.int .i64 n.y) := hb2.cell 1
  have n2 : _ = some (Value.int .i64 n.z) := hb2.cell 2
  have Hb0 := Lib.hid hb0
  have Hb1 := Lib.hid hb1
  have Hb2 := Lib.hid hb2
  clear hb0 hb1 hb2
  go_wp2_with fail
  refine (HC2.out w2 HB2.out).mono ?_
  rintro e w3 ⟨rfl, hB3⟩
  have HB3 := Lib.hid (HB2.out.trans (hB3.mono hs2))
  have hs3 := HB3.out.size
  have hb0 := Hb0.out.below hB3 Hb0.out.lt
  have hb1 := Hb1.out.below hB3 Hb1.out.lt
  have hb2 := Hb2.out.below hB3 Hb2.out.lt
  clear k0 n0 n1 n2 hB3 Hb0 Hb1 Hb2
  have n0 : _ = some (Value.int .i64 n.x) := hb2.cell 0
  have n1 : _ = some (Value.int .i64 n.y) := hb2.cell 1
  have n2 : _ = some (Value.int .i64 n.z) := hb2.cell 2
  have Hb0 := Lib.hid hb0
  have Hb1 := Lib.hid hb1
  clear hb0 hb1 hb2
  go_wp2_with fail
  refine (HC3.out w3).mono ?_
  rintro e w4 ⟨rfl, hB4⟩
  have HB4 := Lib.hid (HB3.out.trans (hB4.mono hs3))
  have hs4 := HB4.out.size
  have hb0 := Hb0.out.below hB4 Hb0.out.lt
  have hb1 := Hb1.out.below hB4 Hb1.out.lt
  have HW5 : Hid (Below w4.heap.size w4 ((w4.alloc (.cells #[.int .i64 S] 3)).alloc (.cells #[.int .i64 U] 3)) ∧ Blk ((w4.alloc (.cells #[.int .i64 S] 3)).alloc (.cells #[.int .i64 U] 3)) w4.heap.size 3 [.int .i64 S] ∧ Blk ((w4.alloc (.cells #[.int .i64 S] 3)).alloc (.cells #[.int .i64 U] 3)) (w4.heap.size + 1) 3 [.int .i64 U]) := Lib.hid ⟨((Below.refl _ w4).alloc (Nat.le_refl _) _).alloc (by simp) _, (Blk.new w4 3 [.int .i64 S]).alloc _, Blk.newAt (w := w4.alloc (.cells #[.int .i64 S] 3)) (by simp) 3 [.int .i64 U]⟩
  have Hb0 := Lib.hid hb0
  have Hb1 := Lib.hid hb1
  clear n0 n1 n2 hB4 hb0 hb1
  go_upto_region 5 with (fail)
  obtain ⟨w5, hw5⟩ : ∃ w5, (w4.alloc (.cells #[.int .i64 S] 3)).alloc (.cells #[.int .i64 U] 3) = w5 := ⟨_, rfl⟩
  rw [hw5] at HW5 ⊢
  clear hw5
  obtain ⟨hB5, hd, hu⟩ := HW5.out
  have HB5 := Lib.hid (HB4.out.trans (hB5.mono hs4))
  have hs5 := HB5.out.size
  have hb0 := Hb0.out.below hB5 Hb0.out.lt
  have hb1 := Hb1.out.below hB5 Hb1.out.lt
  obtain ⟨cd, hcd⟩ : ∃ cd, cd = w4.heap.size := ⟨_, rfl⟩
  simp only [← hcd] at hd hu ⊢
  have Hd := Lib.hid hd
  have Hu := Lib.hid hu
  have Hb0 := Lib.hid hb0
  have Hb1 := Lib.hid hb1
  clear hB5 hd hu hcd hb0 hb1 HW5 hs4
  go_wp2_with fail
  refine (gap51_any (LB - GA) U S a.r b.r _ _ (cd + 1) c0 (c0 + 1) cd w5 Hu.out Hb0.out rfl Hb1.out rfl Hd.out (by omega) (by omega) (by omega) (by have := HRA.out; omega) (by have := HRB.out; omega)).mono ?_
  rintro e w6 ⟨rfl, hB6⟩
  have HB6 := Lib.hid (HB5.out.trans (hB6.mono hs5))
  have hs6 := HB6.out.size
  have Hu6 := Lib.hid (Hu.out.below hB6 Hu.out.lt)
  have Hd6 := Lib.hid (Hd.out.below hB6 Hd.out.lt)
  have Hb06 := Lib.hid (Hb0.out.below hB6 Hb0.out.lt)
  have Hb16 := Lib.hid (Hb1.out.below hB6 Hb1.out.lt)
  clear hB6
  go_wp2_with fail
  refine (gap51_any (LA - GB) U S a.r b.r _ _ (cd + 1) c0 (c0 + 1) cd w6 Hu6.out Hb06.out rfl Hb16.out rfl Hd6.out (by omega) (by omega) (by omega) (by have := HRA.out; omega) (by have := HRB.out; omega)).mono ?_
  rintro e w7 ⟨rfl, hB7⟩
  have HB7 := Lib.hid (HB6.out.trans (hB7.mono hs6))
  clear hB7
  go_wp2
  go_ret2
  exact ⟨rfl, HB7.out⟩
end Go.Proofs.Ytpbpdgknjbjlcaa
