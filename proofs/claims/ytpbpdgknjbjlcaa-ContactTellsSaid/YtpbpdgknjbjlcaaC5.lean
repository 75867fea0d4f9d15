/- Contacts: points; dot products of points that are not too far. -/
import Derived.Test.YtpbpdgknjbjlcaaB1
import Derived.Test.YtpbpdgknjbjlcaaO
import Derived.Test.YtpbpdgknjbjlcaaQr
import Derived.Test.YtpbpdgknjbjlcaaProg
import Derived.IntWalk
import Derived.Laws.Cover1
import Derived.Laws.StructEq
import Derived.Deep.DeepCutAuto
import Derived.Deep.RegionHeld3
import Derived.Deep.RegionLaw
import Derived.Deep.AppendLies
import Derived.Deep.QuietTactic
import Derived.Deep.CutBlock
import Derived.Deep.LoopGhost
import Derived.Deep.Upon
import Derived.WalkSpells
import Derived.WalkMore
import Derived.LoopTactic
import Derived.BigQuiet
import Derived.OwnWalk
import Derived.Maps.OwnSet
import Derived.Maps.OwnOps
import Derived.Maps.RangeWalk
import Derived.Maps.AppendAt
import Derived.Lib.Hide
namespace Go.Proofs.Ytpbpdgknjbjlcaa
open Go.RowKit
/-- A point. -/
structure Pt where
  x : Int
  y : Int
  z : Int
abbrev ptV (p : Pt) : Value := .agg #[.int .i64 p.x, .int .i64 p.y, .int .i64 p.z]
def Pt.cells (p : Pt) : List Value := [.int .i64 p.x, .int .i64 p.y, .int .i64 p.z]
/-- No part is beyond K. -/
def Near (K : Int) (p : Pt) : Prop := (-K ≤ p.x ∧ p.x ≤ K) ∧ (-K ≤ p.y ∧ p.y ≤ K) ∧ (-K ≤ p.z ∧ p.z ≤ K)
def dotP (a b : Pt) : Int := a.x * b.x + a.y * b.y + a.z * b.z
theorem mul_near {K a b : Int} (ha : -K ≤ a ∧ a ≤ K) (hb : -K ≤ b ∧ b ≤ K) : -(K * K) ≤ a * b ∧ a * b ≤ K * K := by
  have hK : 0 ≤ K := by omega
  have h : (a * b).natAbs ≤ (K * K).natAbs := by
    rw [Int.natAbs_mul, Int.natAbs_mul]
    exact Nat.mul_le_mul (by omega) (by omega)
  have hKK : 0 ≤ K * K := Int.mul_nonneg hK hK
  omega
theorem dot_near {K : Int} {a b : Pt} (ha : Near K a) (hb : Near K b) : -(3 * (K * K)) ≤ dotP a b ∧ dotP a b ≤ 3 * (K * K) := by
  have h1 := mul_near ha.1 hb.1
  have h2 := mul_near ha.2.1 hb.2.1
  have h3 := mul_near ha.2.2 hb.2.2
  unfold dotP
  omega

set_option maxRecDepth 100000 in
theorem dot12_any (a b : Pt) (w : World) (ha : Near 134217728 a) (hb : Near 134217728 b) : Calls Try.prog 12 #[ptV a, ptV b] w fun e w' => e = .returned (.int .i64 (dotP a b)) ∧ Below w.heap.size w w' := by
  have h1 := mul_near ha.1 hb.1
  have h2 := mul_near ha.2.1 hb.2.1
  have h3 := mul_near ha.2.2 hb.2.2
  have B1 : Below w.heap.size w ((w.alloc (.cells #[.int .i64 a.x, .int .i64 a.y, .int .i64 a.z] 26)).alloc (.cells #[.int .i64 b.x, .int .i64 b.y, .int .i64 b.z] 26)) := ((Below.refl _ w).alloc (Nat.le_refl _) _).alloc (by simp) _
  have e1 := IntWalk.i64_in (a.x * b.x) (by omega)
  have e2 := IntWalk.i64_in (a.y * b.y) (by omega)
  have e3 := IntWalk.i64_in (a.z * b.z) (by omega)
  have e4 := IntWalk.i64_in (a.x * b.x + a.y * b.y) (by omega)
  have e5 := IntWalk.i64_in (a.x * b.x + a.y * b.y + a.z * b.z) (by omega)
  have HB := Lib.hid B1
  clear B1 h1 h2 h3 ha hb
  unfold dotP
  go_enter Try.func12, Try.ntmps12
  go_wp2
  go_ret
  exact ⟨by simp_all, HB.out⟩

set_option maxRecDepth 100000 in
theorem dot34_any (a b : Pt) (w : World) (ha : Near 134217728 a) (hb : Near 134217728 b) : Calls Try.prog 34 #[ptV a, ptV b] w fun e w' => e = .returned (.int .i64 (dotP a b)) ∧ Below w.heap.size w w' := by
  have h1 := mul_near ha.1 hb.1
  have h2 := mul_near ha.2.1 hb.2.1
  have h3 := mul_near ha.2.2 hb.2.2
  have B1 : Below w.heap.size w ((w.alloc (.cells #[.int .i64 a.x, .int .i64 a.y, .int .i64 a.z] 26)).alloc (.cells #[.int .i64 b.x, .int .i64 b.y, .int .i64 b.z] 26)) := ((Below.refl _ w).alloc (Nat.le_refl _) _).alloc (by simp) _
  have e1 := IntWalk.i64_in (a.x * b.x) (by omega)
  have e2 := IntWalk.i64_in (a.y * b.y) (by omega)
  have e3 := IntWalk.i64_in (a.z * b.z) (by omega)
  have e4 := IntWalk.i64_in (a.x * b.x + a.y * b.y) (by omega)
  have e5 := IntWalk.i64_in (a.x * b.x + a.y * b.y + a.z * b.z) (by omega)
  have HB := Lib.hid B1
  clear B1 h1 h2 h3 ha hb
  unfold dotP
  go_enter Try.func34, Try.ntmps34
  go_wp2
  go_ret
  exact ⟨by simp_all, HB.out⟩

set_option maxRecDepth 100000 in
theorem dot26_any (a b : Pt) (w : World) (ha : Near 134217728 a) (hb : Near 134217728 b) : Calls Try.prog 26 #[ptV a, ptV b] w fun e w' => e = .returned (.int .i64 (dotP a b)) ∧ Below w.heap.size w w' := by
  have h1 := mul_near ha.1 hb.1
  have h2 := mul_near ha.2.1 hb.2.1
  have h3 := mul_near ha.2.2 hb.2.2
  have B1 : Below w.heap.size w ((w.alloc (.cells #[.int .i64 a.x, .int .i64 a.y, .int .i64 a.z] 26)).alloc (.cells #[.int .i64 b.x, .int .i64 b.y, .int .i64 b.z] 26)) := ((Below.refl _ w).alloc (Nat.le_refl _) _).alloc (by simp) _
  have e1 := IntWalk.i64_in (a.x * b.x) (by omega)
  have e2 := IntWalk.i64_in (a.y * b.y) (by omega)
  have e3 := IntWalk.i64_in (a.z * b.z) (by omega)
  have e4 := IntWalk.i64_in (a.x * b.x + a.y * b.y) (by omega)
  have e5 := IntWalk.i64_in (a.x * b.x + a.y * b.y + a.z * b.z) (by omega)
  have HB := Lib.hid B1
  clear B1 h1 h2 h3 ha hb
  unfold dotP
  go_enter Try.func26, Try.ntmps26
  go_wp2
  go_ret
  exact ⟨by simp_all, HB.out⟩

end Go.Proofs.Ytpbpdgknjbjlcaa
/- Contacts: nearness of a point; differences; quotients down. -/
namespace Go.Proofs.Ytpbpdgknjbjlcaa
open Go.RowKit
def nearB (K : Int) (p : Pt) : Bool := decide (-K ≤ p.x) && decide (p.x ≤ K) && decide (-K ≤ p.y) && decide (p.y ≤ K) && decide (-K ≤ p.z) && decide (p.z ≤ K)
theorem nearB_iff {K : Int} {p : Pt} : nearB K p = true ↔ Near K p := by
  unfold nearB Near
  simp only [Bool.and_eq_true, decide_eq_true_eq]
  omega
theorem near_mono {K M : Int} {p : Pt} (h : Near K p) (hKM : K ≤ M) : Near M p := by
  unfold Near at *
  omega
set_option maxRecDepth 100000 in
theorem in43_any (p : Pt) (K : Int) (w : World) (h0 : 0 ≤ K) (h1 : K ≤ 4611686018427387904) : Calls Try.prog 43 #[ptV p, .int .i64 K] w fun e w' => e = .returned (.bool (nearB K p)) ∧ Below w.heap.size w w' := by
  have B1 : Below w.heap.size w (w.alloc (.cells #[.int .i64 p.x, .int .i64 p.y, .int .i64 p.z] 26)) := (Below.refl _ w).alloc (Nat.le_refl _) _
  have e1 := IntWalk.i64_in (-K) (by omega)
  have HB := Lib.hid B1
  clear B1
  unfold nearB
  go_enter Try.func43, Try.ntmps43
  go_wp2
  all_goals (go_ret; exact ⟨by simp_all <;> (intros; omega), HB.out⟩)
set_option maxRecDepth 100000 in
theorem beyond58_any (p : Pt) (K : Int) (w : World) (h0 : 0 ≤ K) (h1 : K ≤ 4611686018427387904) : Calls Try.prog 58 #[ptV p, .int .i64 K] w fun e w' => e = .returned (.bool (!nearB K p)) ∧ Below w.heap.size w w' := by
  have B1 : Below w.heap.size w (w.alloc (.cells #[.int .i64 p.x, .int .i64 p.y, .int .i64 p.z] 26)) := (Below.refl _ w).alloc (Nat.le_refl _) _
  have e1 := IntWalk.i64_in (-K) (by omega)
  have HB := Lib.hid B1
  clear B1
  unfold nearB
  go_enter Try.func58, Try.ntmps58
  go_wp2
  all_goals (go_ret; refine ⟨ret_bool ?_, HB.out⟩; rw [Bool.eq_iff_iff]; simp only [Bool.or_eq_true, Bool.not_eq_true', decide_eq_true_eq, decide_eq_false_iff_not, true_iff, eq_self]; first | omega | (split at * <;> omega))

def subP (a b : Pt) : Pt := ⟨a.x - b.x, a.y - b.y, a.z - b.z⟩
set_option maxRecDepth 100000 in
theorem minus32_any (a b : Pt) (w : World) (ha : Near 1073741824 a) (hb : Near 1073741824 b) : Calls Try.prog 32 #[ptV a, ptV b] w fun e w' => e = .returned (ptV (subP a b)) ∧ Below w.heap.size w w' := by
  obtain ⟨⟨a1, a2⟩, ⟨a3, a4⟩, a5, a6⟩ := ha
  obtain ⟨⟨b1, b2⟩, ⟨b3, b4⟩, b5, b6⟩ := hb
  go_enter Try.func32, Try.ntmps32
  go_wp2
  exact bodyPost_ret (v := ptV (subP a b)) (by simp [results, Try.f32, go_sem, subP]) rfl ⟨rfl, (((Below.refl _ w).alloc (Nat.le_refl _) _).alloc (by simp) _).alloc (by simp; omega) _⟩

set_option maxRecDepth 100000 in
theorem minus37_any (a b : Pt) (w : World) (ha : Near 1073741824 a) (hb : Near 1073741824 b) : Calls Try.prog 37 #[ptV a, ptV b] w fun e w' => e = .returned (ptV (subP a b)) ∧ Below w.heap.size w w' := by
  obtain ⟨⟨a1, a2⟩, ⟨a3, a4⟩, a5, a6⟩ := ha
  obtain ⟨⟨b1, b2⟩, ⟨b3, b4⟩, b5, b6⟩ := hb
  go_enter Try.func37, Try.ntmps37
  go_wp2
  exact bodyPost_ret (v := ptV (subP a b)) (by simp [results, Try.f37, go_sem, subP]) rfl ⟨rfl, (((Below.refl _ w).alloc (Nat.le_refl _) _).alloc (by simp) _).alloc (by simp; omega) _⟩

set_option maxRecDepth 100000 in
theorem minus46_any (a b : Pt) (w : World) (ha : Near 1073741824 a) (hb : Near 1073741824 b) : Calls Try.prog 46 #[ptV a, ptV b] w fun e w' => e = .returned (ptV (subP a b)) ∧ Below w.heap.size w w' := by
  obtain ⟨⟨a1, a2⟩, ⟨a3, a4⟩, a5, a6⟩ := ha
  obtain ⟨⟨b1, b2⟩, ⟨b3, b4⟩, b5, b6⟩ := hb
  go_enter Try.func46, Try.ntmps46
  go_wp2
  exact bodyPost_ret (v := ptV (subP a b)) (by simp [results, Try.f46, go_sem, subP]) rfl ⟨rfl, (((Below.refl _ w).alloc (Nat.le_refl _) _).alloc (by simp) _).alloc (by simp; omega) _⟩

end Go.Proofs.Ytpbpdgknjbjlcaa
/- Contacts: the closure that tells what is beyond; quotients down. -/
namespace Go.Proofs.Ytpbpdgknjbjlcaa
open Go.RowKit
set_option maxRecDepth 100000 in
theorem beyond33_any (K : Int) (w : World) : Calls Try.prog 33 #[.int .i64 K] w fun e w' => e = .returned (.func (.func 52) #[] #[.pointer (some ⟨w.heap.size, 0, none⟩)]) ∧ w' = w.alloc (.cells #[.int .i64 K] 3) := by
  go_enter Try.func33, Try.ntmps33
  go_wp2
  go_ret
  exact ⟨rfl, rfl⟩
set_option maxRecDepth 100000 in
theorem beyond52_any (p : Pt) (K : Int) (b : Nat) (w : World) (h0 : 0 ≤ K) (h1 : K ≤ 4611686018427387904) (hb : Blk w b 3 [.int .i64 K]) : Calls Try.prog 52 #[ptV p, .pointer (some ⟨b, 0, none⟩)] w fun e w' => e = .returned (.bool (!nearB K p)) ∧ Below w.heap.size w w' := by
  have B1 : Below w.heap.size w (w.alloc (.cells #[.int .i64 p.x, .int .i64 p.y, .int .i64 p.z] 26)) := (Below.refl _ w).alloc (Nat.le_refl _) _
  have e1 := IntWalk.i64_in (-K) (by omega)
  have c0 : _ = some (Value.int .i64 K) := hb.cell 0
  have hlt := hb.lt
  have HB := Lib.hid B1
  clear B1 hb
  unfold nearB
  go_enter Try.func52, Try.ntmps52
  go_wp2
  all_goals (go_ret; refine ⟨ret_bool ?_, HB.out⟩; rw [Bool.eq_iff_iff]; simp only [Bool.or_eq_true, Bool.not_eq_true', decide_eq_true_eq, decide_eq_false_iff_not, true_iff, eq_self]; first | omega | (split at * <;> omega))
/-- a by b, down. -/
def downP (a b : Int) : Int := a.fdiv b
set_option maxRecDepth 100000 in
theorem down18_any (a b : Int) (w : World) (ha : -4611686018427387904 ≤ a ∧ a ≤ 4611686018427387904) (hb : 1 ≤ b ∧ b ≤ 1073741824) : Calls Try.prog 18 #[.int .i64 a, .int .i64 b] w fun e w' => e = .returned (.int .i64 (downP a b)) ∧ w' = w := by
  obtain ⟨a1, a2⟩ := ha
  obtain ⟨b1, b2⟩ := hb
  have hb0 : b ≠ 0 := by omega
  have hfd : downP a b = a / b := Int.fdiv_eq_ediv_of_nonneg a (by omega)
  by_cases hneg : a < 0
  · have hq : Int.tdiv (-a + b - 1) b = -(a / b) := by
      rw [Int.tdiv_eq_ediv_of_nonneg (by omega)]
      have h1 := Int.emod_nonneg a hb0
      have h2 := Int.emod_lt_of_pos a (show 0 < b by omega)
      have h3 := Int.mul_ediv_add_emod a b
      rw [Int.ediv_emod_unique (by omega) |>.2 ⟨?_, ?_, ?_⟩ |>.1]
      · exact b - 1 - a % b
      · have : b * -(a / b) = -(b * (a / b)) := Int.mul_neg _ _
        omega
      · omega
      · omega
    have hqb : -4611686018427387904 ≤ a / b ∧ a / b ≤ 0 := by
      constructor
      · have := Int.le_ediv_of_mul_le (a := -4611686018427387904) (b := a) (c := b) (by omega) (by have := Int.mul_le_mul_of_nonpos_left (a := -4611686018427387904) (b := b) (c := 1) (by omega) (by omega); omega)
        exact this
      · exact Int.ediv_nonpos_of_nonpos_of_neg (by omega) (by omega)
    rw [hfd]
    obtain ⟨q, hqq⟩ : ∃ q, q = a / b := ⟨_, rfl⟩
    rw [← hqq] at hq hqb ⊢
    obtain ⟨q1, q2⟩ := hqb
    have e1 := IntWalk.i64_in (-a) (by omega)
    have e2 := IntWalk.i64_in (-a + b) (by omega)
    have e3 := IntWalk.i64_in (-a + b - 1) (by omega)
    have e4 := IntWalk.i64_in (-q) (by omega)
    have e5 := IntWalk.i64_in q (by omega)
    clear hqq hfd
    go_enter Try.func18, Try.ntmps18
    go_wp2
    go_ret
    exact ⟨ret_int (by simp_all), rfl⟩
  · have hq : Int.tdiv a b = a / b := Int.tdiv_eq_ediv_of_nonneg (by omega)
    have hqb : 0 ≤ a / b ∧ a / b ≤ 4611686018427387904 := by
      constructor
      · exact Int.ediv_nonneg (by omega) (by omega)
      · exact Int.le_trans (Int.ediv_le_self b (by omega)) a2
    rw [hfd]
    obtain ⟨q, hqq⟩ : ∃ q, q = a / b := ⟨_, rfl⟩
    rw [← hqq] at hq hqb ⊢
    obtain ⟨q1, q2⟩ := hqb
    have e5 := IntWalk.i64_in q (by omega)
    clear hqq hfd
    go_enter Try.func18, Try.ntmps18
    go_wp2
    go_ret
    exact ⟨ret_int (by simp_all), rfl⟩
set_option maxRecDepth 100000 in
theorem down25_any (a b : Int) (w : World) (ha : -4611686018427387904 ≤ a ∧ a ≤ 4611686018427387904) (hb : 1 ≤ b ∧ b ≤ 1073741824) : Calls Try.prog 25 #[.int .i64 a, .int .i64 b] w fun e w' => e = .returned (.int .i64 (downP a b)) ∧ w' = w := by
  obtain ⟨a1, a2⟩ := ha
  obtain ⟨b1, b2⟩ := hb
  have hb0 : b ≠ 0 := by omega
  have hfd : downP a b = a / b := Int.fdiv_eq_ediv_of_nonneg a (by omega)
  have h1 := Int.emod_nonneg a hb0
  have h2 := Int.emod_lt_of_pos a (show 0 < b by omega)
  have h3 := Int.mul_ediv_add_emod a b
  have h4 := Int.mul_tdiv_add_tmod a b
  have hq : (¬ Int.tmod a b < 0 ∧ Int.tdiv a b = a / b) ∨ (Int.tmod a b < 0 ∧ Int.tdiv a b - 1 = a / b) := by
    by_cases hneg : 0 ≤ a
    · exact .inl ⟨by rw [Int.tmod_eq_emod_of_nonneg hneg]; omega, Int.tdiv_eq_ediv_of_nonneg hneg⟩
    · have h5 := Int.tdiv_eq_ediv (a := a) (b := b)
      have h6 := Int.tmod_eq_emod (a := a) (b := b)
      rw [Int.sign_eq_one_of_pos (by omega)] at h5
      by_cases hd : b ∣ a
      · rw [if_pos (.inr hd)] at h5 h6
        have := Int.emod_eq_zero_of_dvd hd
        exact .inl ⟨by omega, by omega⟩
      · rw [if_neg (by simp [hneg, hd])] at h5 h6
        have h7 : ((b.natAbs : Nat) : Int) = b := Int.natAbs_of_nonneg (by omega)
        exact .inr ⟨by omega, by omega⟩
  have hqb : -4611686018427387904 ≤ a / b ∧ a / b ≤ 4611686018427387904 := by
    constructor
    · exact Int.le_ediv_of_mul_le (by omega) (by have := Int.mul_le_mul_of_nonpos_left (a := -4611686018427387904) (b := b) (c := 1) (by omega) (by omega); omega)
    · rcases Int.le_total 0 a with h | h
      · exact Int.le_trans (Int.ediv_le_self b h) a2
      · exact Int.le_trans (Int.ediv_nonpos_of_nonpos_of_neg h (by omega)) (by omega)
  rw [hfd]
  obtain ⟨q, hqq⟩ : ∃ q, q = a / b := ⟨_, rfl⟩
  rw [← hqq] at hq hqb ⊢
  obtain ⟨q1, q2⟩ := hqb
  clear hqq hfd h1 h2 h3 h4
  rcases hq with ⟨hm, hq⟩ | ⟨hm, hq⟩
  · have e5 := IntWalk.i64_in q (by omega)
    go_enter Try.func25, Try.ntmps25
    go_wp2
    go_ret
    exact ⟨ret_int (by simp_all), rfl⟩
  · obtain ⟨d, hd⟩ : ∃ d, d = Int.tdiv a b := ⟨_, rfl⟩
    rw [← hd] at hq
    have e5 := IntWalk.i64_in d (by omega)
    have e6 := IntWalk.i64_in (d - 1) (by omega)
    have hd2 := hd.symm
    clear hd
    go_enter Try.func25, Try.ntmps25
    go_wp2
    go_ret
    exact ⟨ret_int (by simp_all), rfl⟩
end Go.Proofs.Ytpbpdgknjbjlcaa
/- Contacts: slices of points: are all near. -/
namespace Go.Proofs.Ytpbpdgknjbjlcaa
open Go.RowKit
def ptCells (l : List Pt) : List Value := l.flatMap Pt.cells
theorem pt_len (l : List Pt) : (ptCells l).length = l.length * 3 := flat_len (f := Pt.cells) (fun _ => rfl) l
theorem pt_get {l : List Pt} {j : Nat} {x : Pt} (c : Nat) (h : l[j]? = some x) (hc : c < 3) : (ptCells l)[j * 3 + c]? = x.cells[c]? := flat_get (f := Pt.cells) (fun _ => rfl) _ _ _ _ h hc
theorem Rd.pt {w : World} {b off n cap : Nat} {l : List Pt} (h : Rd w (.slice (some ⟨b, off, none⟩) n cap) n 3 (ptCells l)) {k : Nat} (hk : k < n) {x : Pt} (hx : l[k]? = some x) :
    w.cell? ⟨b, off + k * 3, none⟩ = some (.int .i64 x.x) ∧ w.cell? ⟨b, off + k * 3 + 1, none⟩ = some (.int .i64 x.y) ∧ w.cell? ⟨b, off + k * 3 + 2, none⟩ = some (.int .i64 x.z) := by
  have f : ∀ c, c < 3 → w.cell? ⟨b, off + k * 3 + c, none⟩ = x.cells[c]? := fun c hc => by
    have := h.at (i := k * 3 + c) (by omega)
    rw [show off + k * 3 + c = off + (k * 3 + c) by omega, this, pt_get c hx hc]
  exact ⟨f 0 (by decide), f 1 (by decide), f 2 (by decide)⟩
set_option maxRecDepth 100000 in
theorem all44_any (v : Value) (n : Nat) (l : List Pt) (K : Int) (w : World) (hl : l.length = n) (hv : Rd w v n 3 (ptCells l)) (h0 : 0 ≤ K) (h1 : K ≤ 4611686018427387904) :
    Calls Try.prog 44 #[v, .int .i64 K] w fun e w' => e = .returned (.bool (l.all (nearB K))) ∧ Below w.heap.size w w' := by
  obtain ⟨a, c, rfl, c1, c2⟩ := hv.shape
  have Hl := Lib.hid hl
  have Hv := Lib.hid hv
  clear hl hv
  go_enter Try.func44, Try.ntmps44
  go_wp2_with fail
  go_loopw [5] (fun i wr => ∃ k : Nat, k ≤ n ∧ i = .int .i64 (k : Int) ∧ Hid ((l.take k).all (nearB K) = true) ∧ Below w.heap.size w wr) (fun i _ => n - (intOf i).toNat)
  case atStart => exact ⟨0, Nat.zero_le _, rfl, Lib.hid (by simp), Below.refl _ _⟩
  case round =>
    obtain ⟨k, hk, rfl, HA, hB⟩ := hrel
    by_cases hkn : k < n
    · obtain ⟨x, hx⟩ : ∃ x, l[k]? = some x := ⟨_, List.getElem?_eq_getElem (by rw [Hl.out]; exact hkn)⟩
      obtain ⟨b, off, rfl⟩ := Hv.out.addr (by omega)
      obtain ⟨q0, q1, q2⟩ := (Hv.out.new hB).pt hkn hx
      have hkI : (k : Int) < (n : Int) := by omega
      have hs := hB.size
      have HB := Lib.hid hB
      have Hx := Lib.hid hx
      clear hx hB
      go_wp2_with fail
      refine (in43_any x K wr h0 h1).mono ?_
      rintro e w2 ⟨rfl, hB2⟩
      have hB2' := HB.out.trans (hB2.mono hs)
      clear q0 q1 q2 hB2
      cases hn : nearB K x with
      | true =>
        have HA2 : Hid ((l.take (k + 1)).all (nearB K) = true) := Lib.hid (by
          rw [List.take_add_one, Hx.out, List.all_append, HA.out]
          simp [hn])
        clear hn
        go_wp2
        go_roundw
        case rel => exact ⟨k + 1, by omega, by go_num, HA2, hB2'⟩
        case measure => simp [intOf]; omega
      | false =>
        have HF : Hid (l.all (nearB K) = false) := Lib.hid (by
          rw [List.all_eq_false]
          exact ⟨x, List.mem_of_getElem? Hx.out, by rw [hn]; simp⟩)
        clear hn
        go_wp2
        go_ret
        exact ⟨ret_bool HF.out.symm, hB2'⟩
    · obtain rfl : k = n := by omega
      have hall : l.all (nearB K) = true := by
        have := HA.out
        rw [← Hl.out, List.take_length] at this
        exact this
      have HF := Lib.hid hall
      clear hall
      go_wp2
      go_ret
      exact ⟨ret_bool HF.out.symm, hB⟩
end Go.Proofs.Ytpbpdgknjbjlcaa
/- Contacts: how far points reach. -/
namespace Go.Proofs.Ytpbpdgknjbjlcaa
open Go.RowKit
/-- The least and the greatest along n, of a first point and of others. -/
def loP (n x : Pt) (l : List Pt) : Int := l.foldl (fun m p => min m (dotP n p)) (dotP n x)
def hiP (n x : Pt) (l : List Pt) : Int := l.foldl (fun m p => max m (dotP n p)) (dotP n x)
theorem loP_snoc (n x : Pt) (l : List Pt) (p : Pt) : loP n x (l ++ [p]) = min (loP n x l) (dotP n p) := by simp [loP]
theorem hiP_snoc (n x : Pt) (l : List Pt) (p : Pt) : hiP n x (l ++ [p]) = max (hiP n x l) (dotP n p) := by simp [hiP]
set_option maxRecDepth 100000 in
theorem reach36_any (v : Value) (n : Nat) (l : List Pt) (x : Pt) (d : Pt) (w : World) (hl : (x :: l).length = n) (hv : Rd w v n 3 (ptCells (x :: l))) (hd : Near 134217728 d) (hp : ∀ p ∈ x :: l, Near 134217728 p) :
    Calls Try.prog 36 #[v, ptV d] w fun e w' => e = .returned (.tuple #[.int .i64 (loP d x l), .int .i64 (hiP d x l)]) ∧ Below w.heap.size w w' := by
  obtain ⟨a, c, rfl, c1, c2⟩ := hv.shape
  obtain ⟨b, off, rfl⟩ := hv.addr (by simp at hl; omega)
  have B0 : Below w.heap.size w (w.alloc (.cells d.cells.toArray 26)) := (Below.refl _ w).alloc (Nat.le_refl _) _
  have hbk := Blk.newAt (w := w) (b := w.heap.size) rfl 26 d.cells
  have Hl := Lib.hid hl
  have Hd := Lib.hid hd
  have Hp := Lib.hid hp
  have hn1 : 1 ≤ n := by simp at hl; omega
  have hnI : (0 : Int) < (n : Int) := by omega
  have hnI1 : (1 : Int) ≤ (n : Int) := by omega
  clear hl hd hp
  go_enter Try.func36, Try.ntmps36
  go_upto_region 1 with (fail)
  obtain ⟨w1, hw1⟩ : ∃ w1, w.alloc (.cells d.cells.toArray 26) = w1 := ⟨_, rfl⟩
  change Code.wp _ _ _ _ (w.alloc (.cells d.cells.toArray 26))
  rw [hw1] at B0 hbk ⊢
  clear hw1
  have Hv := Lib.hid (hv.new B0)
  have Hbk := Lib.hid hbk
  have HB0 := Lib.hid B0
  have hs1 := B0.size
  clear hv hbk B0
  generalize hbd : w.heap.size = bd at *
  have Hbd := Lib.hid hbd
  clear hbd
  have F0 : ∀ u : After w1, u.W.cell? ⟨bd, 0, none⟩ = some (.int .i64 d.x) := fun u => (Hbk.out.below u.h Hbk.out.lt).cell 0
  have F1 : ∀ u : After w1, u.W.cell? ⟨bd, 1, none⟩ = some (.int .i64 d.y) := fun u => (Hbk.out.below u.h Hbk.out.lt).cell 1
  have F2 : ∀ u : After w1, u.W.cell? ⟨bd, 2, none⟩ = some (.int .i64 d.z) := fun u => (Hbk.out.below u.h Hbk.out.lt).cell 2
  have G0 : ∀ u : After w1, u.W.cell? ⟨b, off, none⟩ = some (.int .i64 x.x) := fun u => by simpa using ((Hv.out.new u.h).pt (k := 0) (by omega) rfl).1
  have G1 : ∀ u : After w1, u.W.cell? ⟨b, off + 1, none⟩ = some (.int .i64 x.y) := fun u => by simpa using ((Hv.out.new u.h).pt (k := 0) (by omega) rfl).2.1
  have G2 : ∀ u : After w1, u.W.cell? ⟨b, off + 2, none⟩ = some (.int .i64 x.z) := fun u => by simpa using ((Hv.out.new u.h).pt (k := 0) (by omega) rfl).2.2
  refine wp_region_after (by kernel_rfl) (by kernel_rfl) ?_
  repeat (go_big_quiet_step ((go_at_call 34; exact calls_after _ (dot34_any d x _ Hd.out (Hp.out x (List.mem_cons_self ..))))))
  refine wpQuiet_nil ?_
  intro w9 hw9
  obtain ⟨u9, rfl⟩ := hw9
  clear F0 F1 F2 G0 G1 G2
  have HB9 := Lib.hid (HB0.out.trans (u9.h.mono hs1))
  have Hv9 := Lib.hid (Hv.out.new u9.h)
  have Hbk9 := Lib.hid (Hbk.out.below u9.h Hbk.out.lt)
  have hll : l.length = n - 1 := by have := Hl.out; simp at this; omega
  have Hll := Lib.hid hll
  clear Hv Hbk HB0 hs1 hll
  generalize u9.W = w2 at *
  obtain ⟨m, hm⟩ : ∃ m, m = n - 1 := ⟨_, rfl⟩
  have hmb : m + 1 ≤ 9223372036854775807 := by omega
  have Hm := Lib.hid hm
  by_cases hc1 : c = 1
  · subst hc1
    obtain rfl : n = 1 := by omega
    have hl0 : l = [] := List.eq_nil_of_length_eq_zero (by rw [Hll.out])
    subst hl0
    clear hm Hm Hll Hl Hp
    go_wp2_with fail
    go_loopw [4, 5, 18] (fun a b i wr => i = .int .i64 0 ∧ a = .int .i64 (dotP d x) ∧ b = .int .i64 (dotP d x) ∧ wr = w2) (fun _ _ _ _ => 0)
    case atStart => exact ⟨rfl, rfl, rfl, rfl⟩
    case round =>
      obtain ⟨rfl, rfl, rfl, rfl⟩ := hrel
      go_wp2
      go_ret2
      exact ⟨rfl, by rw [Hbd.out]; exact HB9.out⟩
  · have hcI : ¬ c = 1 := hc1
    have hgo : ∀ k, k < m → ∀ y, l[k]? = some y → ∀ W, Below w2.heap.size w2 W → W.cell? ⟨b, off + 3 + k * 3, none⟩ = some (.int .i64 y.x) ∧ W.cell? ⟨b, off + 3 + k * 3 + 1, none⟩ = some (.int .i64 y.y) ∧ W.cell? ⟨b, off + 3 + k * 3 + 2, none⟩ = some (.int .i64 y.z) := fun k hk y hy W hW => by
      have := (Hv9.out.new hW).pt (k := k + 1) (x := y) (by omega) (by simpa using hy)
      rw [show off + (k + 1) * 3 = off + 3 + k * 3 by omega] at this
      exact this
    have Hgo := Lib.hid hgo
    have hB0 : Below w2.heap.size w2 w2 := Below.refl _ _
    clear hgo
    go_upto_region 4 with (fail)
    rw [← hm]
    clear hm
    go_loopw [4, 5, 18] (fun a b i wr => ∃ k : Nat, k ≤ m ∧ i = .int .i64 (k : Int) ∧ a = .int .i64 (loP d x (l.take k)) ∧ b = .int .i64 (hiP d x (l.take k)) ∧ Below w2.heap.size w2 wr) (fun _ _ i _ => m - (intOf i).toNat)
    case atStart => exact ⟨0, Nat.zero_le _, rfl, rfl, rfl, hB0⟩
    case round =>
      clear hB0
      obtain ⟨k, hk, rfl, ha, hb2, hB⟩ := hrel
      by_cases hkm : k < m
      · obtain ⟨y, hy⟩ : ∃ y, l[k]? = some y := ⟨_, List.getElem?_eq_getElem (by rw [Hll.out, ← Hm.out]; exact hkm)⟩
        obtain ⟨q0, q1, q2⟩ := Hgo.out k hkm y hy wr hB
        have hkI : (k : Int) < (m : Int) := by omega
        have hs := hB.size
        have hbd := Hbk9.out.below hB Hbk9.out.lt
        have hbd2 := hbd.alloc (.cells y.cells.toArray 26)
        have e0 : _ = some (Value.int .i64 d.x) := hbd2.cell 0
        have e1 : _ = some (Value.int .i64 d.y) := hbd2.cell 1
        have e2 : _ = some (Value.int .i64 d.z) := hbd2.cell 2
        have f0 : _ = some (Value.int .i64 d.x) := hbd.cell 0
        have f1 : _ = some (Value.int .i64 d.y) := hbd.cell 1
        have f2 : _ = some (Value.int .i64 d.z) := hbd.cell 2
        have hblt := hbd.lt
        have HB := Lib.hid (hB.alloc hs (.cells y.cells.toArray 26))
        have hmem : y ∈ x :: l := List.mem_cons_of_mem _ (List.mem_of_getElem? hy)
        have hlo : loP d x (l.take (k + 1)) = min (loP d x (l.take k)) (dotP d y) := by rw [List.take_add_one, hy]; exact loP_snoc _ _ _ _
        have hhi : hiP d x (l.take (k + 1)) = max (hiP d x (l.take k)) (dotP d y) := by rw [List.take_add_one, hy]; exact hiP_snoc _ _ _ _
        have Hlo := Lib.hid hlo
        have Hhi := Lib.hid hhi
        have Hmem := Lib.hid hmem
        subst ha
        subst hb2
        generalize loP d x (l.take k) = lo at *
        generalize hiP d x (l.take k) = hi at *
        clear hy hB hbd hbd2 hlo hhi hmem
        go_wp2_with fail
        refine (dot34_any d y _ Hd.out (Hp.out y Hmem.out)).mono ?_
        rintro e w4 ⟨rfl, hB4⟩
        have HB4 := Lib.hid (HB.out.trans (hB4.mono HB.out.size))
        clear e0 e1 e2 f0 f1 f2 q0 q1 q2 hB4
        go_wp2
        go_roundw
        case rel => exact ⟨k + 1, by omega, by go_num, by rw [Hlo.out]; congr 1; split <;> omega, by rw [Hhi.out]; congr 1; split <;> omega, HB4.out⟩
        case measure => simp [intOf]; omega
      · obtain rfl : k = m := by omega
        have hall : l.take k = l := by rw [Hm.out, ← Hll.out, List.take_length]
        rw [hall] at ha hb2
        subst ha
        subst hb2
        have HBz := Lib.hid (HB9.out.trans (hB.mono (by have := HB9.out.size; rw [Hbd.out] at this; exact this)))
        clear hall hB
        go_wp2
        go_ret2
        exact ⟨rfl, by rw [Hbd.out]; exact HBz.out⟩
end Go.Proofs.Ytpbpdgknjbjlcaa
