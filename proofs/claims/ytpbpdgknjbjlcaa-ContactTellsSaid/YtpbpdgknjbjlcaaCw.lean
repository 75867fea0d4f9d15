/- Contacts: a direction made short, its parts. -/
import Derived.Test.YtpbpdgknjbjlcaaC5
import Derived.Test.YtpbpdgknjbjlcaaCd
namespace Go.Proofs.Ytpbpdgknjbjlcaa
open Go.RowKit
theorem gcd_step (a b : Int) : Int.gcd b (a.tmod b) = Int.gcd a b := by
  unfold Int.gcd
  rw [Int.natAbs_tmod, Nat.gcd_comm b.natAbs, ← Nat.gcd_rec, Nat.gcd_comm]
set_option maxRecDepth 100000 in
theorem gcd72_any (a b : Int) (w : World) (ha : -9223372036854775807 ≤ a ∧ a ≤ 9223372036854775807) (hb : -9223372036854775807 ≤ b ∧ b ≤ 9223372036854775807) :
    Calls Try.prog 72 #[.int .i64 a, .int .i64 b] w fun e w' => e = .returned (.int .i64 (Int.gcd a b : Int)) ∧ Below w.heap.size w w' := by
  obtain ⟨a0, a1⟩ := ha
  obtain ⟨b0, b1⟩ := hb
  obtain ⟨G, hG⟩ : ∃ G : Int, G = (Int.gcd a b : Int) := ⟨_, rfl⟩
  rw [← hG]
  have HG := Lib.hid hG
  clear hG
  go_enter Try.func72, Try.ntmps72
  go_upto_block 1 with (fail)
  go_loopg [0, 1] b.natAbs (fun g x y wx => ∃ p q : Int, g = q.natAbs ∧ x = .int .i64 p ∧ y = .int .i64 q ∧ -9223372036854775807 ≤ p ∧ p ≤ 9223372036854775807 ∧ -9223372036854775807 ≤ q ∧ q ≤ 9223372036854775807 ∧ Hid (G = (Int.gcd p q : Int)) ∧ Below w.heap.size w wx)
  case atStart => exact ⟨a, b, rfl, rfl, rfl, a0, a1, b0, b1, HG, Below.refl _ _⟩
  case round =>
    obtain ⟨p, q, rfl, rfl, rfl, p0, p1, q0, q1, H, hB⟩ := hrel
    by_cases hq : q = 0
    · subst hq
      have hg : G = ((p.natAbs : Nat) : Int) := by
        have := H.out
        simpa using this
      have Hg := Lib.hid hg
      have e1 := IntWalk.i64_in (-p) (by omega)
      have HB := Lib.hid hB
      clear hg hB H
      go_wp2
      all_goals (go_ret; exact ⟨ret_int (by rw [Hg.out]; omega), HB.out⟩)
    · have hq1 : (q == 0) = false := by simpa using hq
      have hr : -9223372036854775807 ≤ p.tmod q ∧ p.tmod q ≤ 9223372036854775807 ∧ (p.tmod q).natAbs < q.natAbs := by
        have h1 : (p.tmod q).natAbs = p.natAbs % q.natAbs := Int.natAbs_tmod p q
        have h2 := Nat.mod_lt p.natAbs (show 0 < q.natAbs by omega)
        omega
      obtain ⟨r0, r1, r2⟩ := hr
      have H2 : Hid (G = (Int.gcd q (p.tmod q) : Int)) := Lib.hid (by rw [gcd_step]; exact H.out)
      have e1 := IntWalk.i64_in (p.tmod q) (by omega)
      obtain ⟨m, hm⟩ : ∃ m, m = p.tmod q := ⟨_, rfl⟩
      rw [← hm] at r0 r1 r2 H2 e1
      have hm' := hm.symm
      have hs := hB.size
      have HB := Lib.hid hB
      clear hm H hB
      go_upto_region 2 with (fail)
      refine wp_region_after (by kernel_rfl) (by kernel_rfl) ?_
      repeat (go_big_quiet_step (fail))
      refine wpQuiet_nil ?_
      intro w9 hw9
      obtain ⟨u9, rfl⟩ := hw9
      have HB9 := Lib.hid (HB.out.trans (u9.h.mono hs))
      generalize u9.W = w9 at *
      go_wp2
      go_roundg m.natAbs
      case rel => exact ⟨q, m, rfl, rfl, rfl, q0, q1, r0, r1, H2, HB9.out⟩
      case measure => omega
/-- A point divided by a number. -/
def divP (g : Int) (p : Pt) : Pt := ⟨p.x.tdiv g, p.y.tdiv g, p.z.tdiv g⟩
theorem tdiv_near {x g K : Int} (hx : -K ≤ x ∧ x ≤ K) (_hg : 1 ≤ g) : -K ≤ x.tdiv g ∧ x.tdiv g ≤ K := by
  have h : (x.tdiv g).natAbs ≤ x.natAbs := by
    rw [Int.natAbs_tdiv]
    exact Nat.div_le_self _ _
  omega
theorem div_near {g K : Int} {p : Pt} (hp : Near K p) (hg : 1 ≤ g) : Near K (divP g p) := ⟨tdiv_near hp.1 hg, tdiv_near hp.2.1 hg, tdiv_near hp.2.2 hg⟩
set_option maxRecDepth 100000 in
theorem of60_any (g : Int) (p : Pt) (w : World) (hg : 1 ≤ g) (hp : Near 4611686018427387904 p) :
    Calls Try.prog 60 #[.int .i64 g, ptV p] w fun e w' => e = .returned (ptV (divP g p)) ∧ Below w.heap.size w w' := by
  have hd := div_near hp hg
  obtain ⟨⟨a1, a2⟩, ⟨a3, a4⟩, a5, a6⟩ := hd
  have hg0 : ¬ g = 0 := by omega
  have hgb : (g == 0) = false := by simpa using hg0
  have e1 := IntWalk.i64_in (p.x.tdiv g) (by simp only [divP] at a1 a2; omega)
  have e2 := IntWalk.i64_in (p.y.tdiv g) (by simp only [divP] at a3 a4; omega)
  have e3 := IntWalk.i64_in (p.z.tdiv g) (by simp only [divP] at a5 a6; omega)
  have B0 : Below w.heap.size w ((w.alloc (.cells p.cells.toArray 26)).alloc (.cells #[.int .i64 0, .int .i64 0, .int .i64 0] 26)) := ((Below.refl _ w).alloc (Nat.le_refl _) _).alloc (by simp) _
  have hb0 := (Blk.newAt (w := w) (b := w.heap.size) rfl 26 p.cells).alloc (.cells #[.int .i64 0, .int .i64 0, .int .i64 0] 26)
  have hb1 := Blk.newAt (w := w.alloc (.cells p.cells.toArray 26)) (b := w.heap.size + 1) (by simp) 26 [.int .i64 0, .int .i64 0, .int .i64 0]
  obtain ⟨qx, hqx⟩ : ∃ q, q = p.x.tdiv g := ⟨_, rfl⟩
  obtain ⟨qy, hqy⟩ : ∃ q, q = p.y.tdiv g := ⟨_, rfl⟩
  obtain ⟨qz, hqz⟩ : ∃ q, q = p.z.tdiv g := ⟨_, rfl⟩
  have hval : divP g p = ⟨qx, qy, qz⟩ := by rw [hqx, hqy, hqz]; rfl
  rw [hval]
  rw [← hqx] at e1
  rw [← hqy] at e2
  rw [← hqz] at e3
  have hx := hqx.symm
  have hy := hqy.symm
  have hz := hqz.symm
  clear hp a1 a2 a3 a4 a5 a6 hval hqx hqy hqz
  go_enter Try.func60, Try.ntmps60
  go_upto_region 2 with (fail)
  obtain ⟨w1, hw1⟩ : ∃ w1, (w.alloc (.cells p.cells.toArray 26)).alloc (.cells #[.int .i64 0, .int .i64 0, .int .i64 0] 26) = w1 := ⟨_, rfl⟩
  change Code.wp _ _ _ _ ((w.alloc (.cells p.cells.toArray 26)).alloc (.cells #[.int .i64 0, .int .i64 0, .int .i64 0] 26))
  rw [hw1] at B0 hb0 ⊢
  rw [show (w.alloc (.cells p.cells.toArray 26)).alloc (.cells [Value.int .i64 0, .int .i64 0, .int .i64 0].toArray 26) = w1 from hw1] at hb1
  clear hw1
  obtain ⟨c0, hc0⟩ : ∃ c, c = w.heap.size := ⟨_, rfl⟩
  have Hc0 := Lib.hid hc0
  simp only [← hc0] at hb0 hb1 ⊢
  clear hc0
  have k0 : _ = some (Value.int .i64 p.x) := hb0.cell 0
  have k1 : _ = some (Value.int .i64 p.y) := hb0.cell 1
  have k2 : _ = some (Value.int .i64 p.z) := hb0.cell 2
  have z0 : _ = some (Value.int .i64 0) := hb1.cell 0
  have z1 : _ = some (Value.int .i64 0) := hb1.cell 1
  have z2 : _ = some (Value.int .i64 0) := hb1.cell 2
  have f0 := hb1.frozen 0
  have f1 := hb1.frozen 1
  have f2 := hb1.frozen 2
  have hfin := ((((hb1.set 0 (.int .i64 qx)).set 1 (.int .i64 qy)).set 2 (.int .i64 qz))).drew
  have hc0 := Hc0.out
  have hBf := (((B0.setCell (p := ⟨c0 + 1, 0, none⟩) (by simp only; omega) (.int .i64 qx)).setCell (p := ⟨c0 + 1, 1, none⟩) (by simp only; omega) (.int .i64 qy)).setCell (p := ⟨c0 + 1, 2, none⟩) (by simp only; omega) (.int .i64 qz)).drew
  have Hfin := Lib.hid hfin
  have HBf := Lib.hid hBf
  clear hfin hBf hc0 B0 hb0 hb1
  go_region
  obtain ⟨w9, hw9⟩ : ∃ w9, (((w1.setCell ⟨c0 + 1, 0, none⟩ (.int .i64 qx)).setCell ⟨c0 + 1, 1, none⟩ (.int .i64 qy)).setCell ⟨c0 + 1, 2, none⟩ (.int .i64 qz)).drew = w9 := ⟨_, rfl⟩
  rw [hw9] at Hfin HBf ⊢
  have r0 : _ = some (Value.int .i64 qx) := Hfin.out.cell 0
  have r1 : _ = some (Value.int .i64 qy) := Hfin.out.cell 1
  have r2 : _ = some (Value.int .i64 qz) := Hfin.out.cell 2
  clear hw9 k0 k1 k2 z0 z1 z2 f0 f1 f2
  go_wp2
  exact bodyPost_ret (v := ptV ⟨qx, qy, qz⟩) (by simp [results, Try.f60, go_sem, r0, r1, r2]) rfl ⟨rfl, HBf.out⟩
end Go.Proofs.Ytpbpdgknjbjlcaa
/- Contacts: a direction without what divides all its parts. -/
namespace Go.Proofs.Ytpbpdgknjbjlcaa
open Go.RowKit
def Zero (p : Pt) : Prop := p.x = 0 ∧ p.y = 0 ∧ p.z = 0
instance (p : Pt) : Decidable (Zero p) := inferInstanceAs (Decidable (_ ∧ _))
def gcd3 (p : Pt) : Int := (Int.gcd (Int.gcd p.x p.y : Int) p.z : Int)
theorem gcd3_pos {p : Pt} (h : ¬ Zero p) : 1 ≤ gcd3 p := by
  have h0 : gcd3 p ≠ 0 := by
    intro e
    unfold gcd3 at e
    have e2 : Int.gcd (Int.gcd p.x p.y : Int) p.z = 0 := by omega
    rw [Int.gcd_eq_zero_iff] at e2
    obtain ⟨e3, e4⟩ := e2
    have e5 : Int.gcd p.x p.y = 0 := by omega
    rw [Int.gcd_eq_zero_iff] at e5
    exact h ⟨e5.1, e5.2, e4⟩
  have : 0 ≤ gcd3 p := by unfold gcd3; omega
  omega
def bareP (p : Pt) : Pt := divP (gcd3 p) p
theorem gcd_dvd3 (p : Pt) : gcd3 p ∣ p.x ∧ gcd3 p ∣ p.y ∧ gcd3 p ∣ p.z := by
  unfold gcd3
  refine ⟨?_, ?_, ?_⟩
  · exact Int.dvd_trans (Int.gcd_dvd_left ..) (Int.gcd_dvd_left ..)
  · exact Int.dvd_trans (Int.gcd_dvd_left ..) (Int.gcd_dvd_right ..)
  · exact Int.gcd_dvd_right ..
theorem bare_zero {p : Pt} (h : ¬ Zero p) : ¬ Zero (bareP p) := by
  have hg := gcd3_pos h
  obtain ⟨d1, d2, d3⟩ := gcd_dvd3 p
  rintro ⟨e1, e2, e3⟩
  refine h ⟨?_, ?_, ?_⟩
  · have := Int.tdiv_mul_cancel d1
    rw [show p.x.tdiv (gcd3 p) = 0 from e1] at this
    omega
  · have := Int.tdiv_mul_cancel d2
    rw [show p.y.tdiv (gcd3 p) = 0 from e2] at this
    omega
  · have := Int.tdiv_mul_cancel d3
    rw [show p.z.tdiv (gcd3 p) = 0 from e3] at this
    omega
theorem bare_near {K : Int} {p : Pt} (h : ¬ Zero p) (hp : Near K p) : Near K (bareP p) := div_near hp (gcd3_pos h)
theorem gcd_bound {K a b : Int} (ha : -K ≤ a ∧ a ≤ K) (hb : -K ≤ b ∧ b ≤ K) (_hK : 0 ≤ K) : 0 ≤ (Int.gcd a b : Int) ∧ (Int.gcd a b : Int) ≤ K := by
  refine ⟨by omega, ?_⟩
  by_cases h : a = 0
  · subst h
    have : (Int.gcd 0 b) = b.natAbs := by simp
    omega
  · have h1 : Int.gcd a b ≤ a.natAbs := Nat.le_of_dvd (by omega) (Nat.gcd_dvd_left _ _)
    omega
set_option maxRecDepth 100000 in
theorem bare59_any (p : Pt) (w : World) (hp : Near 4611686018427387904 p) (hz : ¬ Zero p) :
    Calls Try.prog 59 #[ptV p] w fun e w' => e = .returned (ptV (bareP p)) ∧ Below w.heap.size w w' := by
  have B0 : Below w.heap.size w ((w.alloc (.cells p.cells.toArray 26)).alloc (.cells #[.int .i64 0, .int .i64 0, .int .i64 0] 26)) := ((Below.refl _ w).alloc (Nat.le_refl _) _).alloc (by simp) _
  have hb0 := (Blk.newAt (w := w) (b := w.heap.size) rfl 26 p.cells).alloc (.cells #[.int .i64 0, .int .i64 0, .int .i64 0] 26)
  have hb1 := Blk.newAt (w := w.alloc (.cells p.cells.toArray 26)) (b := w.heap.size + 1) (by simp) 26 [.int .i64 0, .int .i64 0, .int .i64 0]
  obtain ⟨g, hg⟩ : ∃ g : Int, g = (Int.gcd p.x p.y : Int) := ⟨_, rfl⟩
  have hg3 : gcd3 p = (Int.gcd g p.z : Int) := by rw [hg]; rfl
  have hgb := gcd_bound hp.1 hp.2.1 (by decide)
  rw [← hg] at hgb
  have HX : Hid (∀ W, Calls Try.prog 72 #[.int .i64 p.x, .int .i64 p.y] W fun e w' => e = .returned (.int .i64 g) ∧ Below W.heap.size W w') := Lib.hid fun W => by
    rw [hg]
    exact gcd72_any p.x p.y W (by have := hp.1; omega) (by have := hp.2.1; omega)
  have HY : Hid (∀ W, Calls Try.prog 72 #[.int .i64 g, .int .i64 p.z] W fun e w' => e = .returned (.int .i64 (gcd3 p)) ∧ Below W.heap.size W w') := Lib.hid fun W => by
    rw [hg3]
    exact gcd72_any g p.z W (by omega) (by have := hp.2.2; omega)
  have HZ : Hid (∀ W, Calls Try.prog 60 #[.int .i64 (gcd3 p), ptV p] W fun e w' => e = .returned (ptV (bareP p)) ∧ Below W.heap.size W w') := Lib.hid fun W => of60_any (gcd3 p) p W (gcd3_pos hz) hp
  clear hp hz hgb hg3 hg
  generalize gcd3 p = G at *
  generalize bareP p = Q at *
  go_enter Try.func59, Try.ntmps59
  go_upto_region 1 with (fail)
  obtain ⟨w1, hw1⟩ : ∃ w1, (w.alloc (.cells p.cells.toArray 26)).alloc (.cells #[.int .i64 0, .int .i64 0, .int .i64 0] 26) = w1 := ⟨_, rfl⟩
  change Code.wp _ _ _ _ ((w.alloc (.cells p.cells.toArray 26)).alloc (.cells #[.int .i64 0, .int .i64 0, .int .i64 0] 26))
  rw [hw1] at B0 hb0 ⊢
  rw [show (w.alloc (.cells p.cells.toArray 26)).alloc (.cells [Value.int .i64 0, .int .i64 0, .int .i64 0].toArray 26) = w1 from hw1] at hb1
  clear hw1
  obtain ⟨c0, hc0⟩ : ∃ c, c = w.heap.size := ⟨_, rfl⟩
  simp only [← hc0] at hb0 hb1 ⊢
  have Hc0 := Lib.hid hc0
  clear hc0
  have HQ : Hid (∀ W, Below w1.heap.size w1 W → (fun W => W.cell? ⟨c0, 0, none⟩ = some (.int .i64 p.x) ∧ W.cell? ⟨c0, 1, none⟩ = some (.int .i64 p.y) ∧ W.cell? ⟨c0, 2, none⟩ = some (.int .i64 p.z)) W) := Lib.hid fun W hW => by
    have h := hb0.below hW hb0.lt
    exact ⟨h.cell 0, h.cell 1, h.cell 2⟩
  have HBc := (Below.refl w1.heap.size w1).drew
  have Hb1 := Lib.hid hb1
  have Hb0 := Lib.hid hb0
  have HB0 := Lib.hid B0
  have hs1 := B0.size
  have hne : c0 ≠ c0 + 1 := by omega
  clear B0 hb0 hb1
  go_region_held3 (fun W => W.cell? ⟨c0, 0, none⟩ = some (.int .i64 p.x) ∧ W.cell? ⟨c0, 1, none⟩ = some (.int .i64 p.y) ∧ W.cell? ⟨c0, 2, none⟩ = some (.int .i64 p.z)) (first | with_reducible exact HQ.out _ HBc | exact HS2 | exact HQ.out _ HBc)
    (first
      | (go_at_call 72; with_reducible refine (HX.out _).mono ?_; rintro e wm ⟨rfl, hBm⟩; replace HBc := HBc.trans (hBm.mono HBc.size); clear hBm)
      | (go_at_call 72; with_reducible refine (HY.out _).mono ?_; rintro e wm ⟨rfl, hBm⟩; replace HBc := HBc.trans (hBm.mono HBc.size); clear hBm)
      | (go_at_call 60; with_reducible refine (HZ.out _).mono ?_; rintro e wz ⟨rfl, hBm⟩; replace HBc := HBc.trans (hBm.mono HBc.size); clear hBm
         have hz := Hb1.out.below HBc Hb1.out.lt
         have z0 := hz.cell 0
         have z1 := hz.cell 1
         have z2 := hz.cell 2
         have y0 := hz.frozen 0
         have y1 := hz.frozen 1
         have y2 := hz.frozen 2
         simp only [List.getElem?_cons_zero, List.getElem?_cons_succ] at z0 z1 z2
         have hz2 := Hb0.out.below HBc Hb0.out.lt
         have HS2 : (fun W => W.cell? ⟨c0, 0, none⟩ = some (.int .i64 p.x) ∧ W.cell? ⟨c0, 1, none⟩ = some (.int .i64 p.y) ∧ W.cell? ⟨c0, 2, none⟩ = some (.int .i64 p.z)) (((wz.setCell ⟨c0 + 1, 0, none⟩ (.int .i64 Q.x)).setCell ⟨c0 + 1, 1, none⟩ (.int .i64 Q.y)).setCell ⟨c0 + 1, 2, none⟩ (.int .i64 Q.z)) := by
           have h := ((hz2.setCell_ne (p := ⟨c0 + 1, 0, none⟩) hne (.int .i64 Q.x)).setCell_ne (p := ⟨c0 + 1, 1, none⟩) hne (.int .i64 Q.y)).setCell_ne (p := ⟨c0 + 1, 2, none⟩) hne (.int .i64 Q.z)
           exact ⟨h.cell 0, h.cell 1, h.cell 2⟩))
  have hfin := ((hz.set 0 (.int .i64 Q.x)).set 1 (.int .i64 Q.y)).set 2 (.int .i64 Q.z)
  have hc0 := Hc0.out
  have hBf := (((HB0.out.trans (HBc.mono hs1)).setCell (p := ⟨c0 + 1, 0, none⟩) (by simp only; omega) (.int .i64 Q.x)).setCell (p := ⟨c0 + 1, 1, none⟩) (by simp only; omega) (.int .i64 Q.y)).setCell (p := ⟨c0 + 1, 2, none⟩) (by simp only; omega) (.int .i64 Q.z)
  obtain ⟨w9, hw9⟩ : ∃ w9, ((wz.setCell ⟨c0 + 1, 0, none⟩ (.int .i64 Q.x)).setCell ⟨c0 + 1, 1, none⟩ (.int .i64 Q.y)).setCell ⟨c0 + 1, 2, none⟩ (.int .i64 Q.z) = w9 := ⟨_, rfl⟩
  rw [hw9] at hfin hBf ⊢
  have r0 : _ = some (Value.int .i64 Q.x) := hfin.cell 0
  have r1 : _ = some (Value.int .i64 Q.y) := hfin.cell 1
  have r2 : _ = some (Value.int .i64 Q.z) := hfin.cell 2
  have HBf := Lib.hid hBf
  clear hc0 hw9 hz hz2 z0 z1 z2 y0 y1 y2 HS2 hfin hBf HBc
  go_wp2
  exact bodyPost_ret (v := ptV Q) (by simp [results, Try.f59, go_sem, r0, r1, r2]) rfl ⟨rfl, HBf.out⟩
end Go.Proofs.Ytpbpdgknjbjlcaa
/- Contacts: a direction made short. -/
namespace Go.Proofs.Ytpbpdgknjbjlcaa
open Go.RowKit
def eqP (a b : Pt) : Bool := a.x == b.x && a.y == b.y && a.z == b.z
theorem eqP_zero (p : Pt) : eqP p ⟨0, 0, 0⟩ = decide (Zero p) := by
  rw [Bool.eq_iff_iff]
  simp only [eqP, Bool.and_eq_true, beq_iff_eq, decide_eq_true_eq, and_assoc]
  exact Iff.rfl
theorem guard26 : Try.prog.eqGuardType Try.prog.depth 26 = false := by kernel_rfl
theorem eqPt (a b : Pt) (w : World) : (binOp .eql 26 (ptV a) (ptV b)).run Try.prog w = .ok (.bool (eqP a b)) w := by
  have u3 := Try.underlying3
  have a3 := Try.isAgg3
  have z3 := Try.sizeOf3
  have hS : Try.prog.underlying 26 = some (.struct (Try.prog.fieldsOf 26)) := by kernel_rfl
  have hp : Try.prog.stoodInHeld 26 = false := by kernel_rfl
  rw [run_eql_struct, show (10000 : Nat) = 9998 + 1 + 1 from rfl, run_equalIn_agg w (9998 + 1) 26 _ _ hS hp]
  simp only [Program.fieldsOf, Try.underlying26]
  go_simp
  cases a
  cases b
  unfold eqP
  repeat' split
  all_goals simp_all
theorem nePt (a b : Pt) (w : World) : (binOp .neq 26 (ptV a) (ptV b)).run Try.prog w = .ok (.bool (!eqP a b)) w := by
  have u3 := Try.underlying3
  have a3 := Try.isAgg3
  have z3 := Try.sizeOf3
  have hS : Try.prog.underlying 26 = some (.struct (Try.prog.fieldsOf 26)) := by kernel_rfl
  have hp : Try.prog.stoodInHeld 26 = false := by kernel_rfl
  rw [run_neq_struct, show (10000 : Nat) = 9998 + 1 + 1 from rfl, run_equalIn_agg w (9998 + 1) 26 _ _ hS hp]
  simp only [Program.fieldsOf, Try.underlying26]
  go_simp
  cases a
  cases b
  unfold eqP
  repeat' split
  all_goals simp_all
def halfP : Nat → Pt → Pt
  | 0, p => p
  | k + 1, p => if nearB 1048576 p then p else halfP k (divP 2 p)
theorem halfP_near {p : Pt} (h : nearB 1048576 p = true) : ∀ k, halfP k p = p
  | 0 => rfl
  | k + 1 => by unfold halfP; rw [if_pos h]
theorem halfP_far {p : Pt} (h : nearB 1048576 p = false) (k : Nat) : halfP (k + 1) p = halfP k (divP 2 p) := by
  show (if nearB 1048576 p then p else halfP k (divP 2 p)) = _
  rw [h]
  rfl
theorem half_facts {p : Pt} {k : Nat} (h : nearB 1048576 p = false) (hp : Near (1048576 * ((2 ^ (k + 1) : Nat) : Int)) p) : Near (1048576 * ((2 ^ k : Nat) : Int)) (divP 2 p) ∧ ¬ Zero (divP 2 p) := by
  have e : ((2 ^ (k + 1) : Nat) : Int) = 2 * ((2 ^ k : Nat) : Int) := by rw [Nat.pow_succ]; omega
  rw [e] at hp
  have hx : ∀ x : Int, x.tdiv 2 = if 0 ≤ x then x / 2 else -((-x) / 2) := by
    intro x
    split
    · exact Int.tdiv_eq_ediv_of_nonneg (by omega)
    · have h1 : x.tdiv 2 = -((-x).tdiv 2) := by rw [Int.neg_tdiv, Int.neg_neg]
      rw [h1, Int.tdiv_eq_ediv_of_nonneg (by omega)]
  have h2 : ¬ Near 1048576 p := by rw [← nearB_iff, h]; decide
  unfold Near at hp h2
  unfold Near Zero divP
  simp only [hx]
  obtain ⟨⟨a1, a2⟩, ⟨a3, a4⟩, a5, a6⟩ := hp
  generalize ((2 ^ k : Nat) : Int) = M at *
  constructor
  · refine ⟨?_, ?_, ?_⟩ <;> split <;> omega
  · intro ⟨z1, z2, z3⟩
    apply h2
    refine ⟨?_, ?_, ?_⟩
    · revert z1; split <;> omega
    · revert z2; split <;> omega
    · revert z3; split <;> omega
theorem half_end : ∀ (k : Nat) {p : Pt}, Near (1048576 * ((2 ^ k : Nat) : Int)) p → ¬ Zero p → Near 1048576 (halfP k p) ∧ ¬ Zero (halfP k p)
  | 0, p, h, hz => ⟨by simpa [halfP] using h, hz⟩
  | k + 1, p, h, hz => by
    cases hn : nearB 1048576 p with
    | true => rw [halfP_near hn]; exact ⟨nearB_iff.1 hn, hz⟩
    | false =>
      rw [halfP_far hn]
      obtain ⟨h1, h2⟩ := half_facts hn h
      exact half_end k h1 h2
/-- A direction made short. -/
def shortP (p : Pt) : Pt := if nearB 4398046511104 p && !decide (Zero p) then bareP (halfP 22 (bareP p)) else ⟨0, 0, 0⟩
theorem short_near (p : Pt) : Near 1048576 (shortP p) := by
  unfold shortP
  split
  · rename_i h
    simp only [Bool.and_eq_true, Bool.not_eq_true', decide_eq_false_iff_not] at h
    obtain ⟨h1, h2⟩ := h
    have h3 := nearB_iff.1 (bare_near (K := 4398046511104) h2 (nearB_iff.1 h1) |> nearB_iff.2)
    obtain ⟨h4, h5⟩ := half_end 22 (p := bareP p) h3 (bare_zero h2)
    exact bare_near h5 h4
  · exact ⟨by decide, by decide, by decide⟩
set_option maxRecDepth 100000 in
theorem short50_zero (p : Pt) (w : World) (h : (nearB 4398046511104 p && !decide (Zero p)) = false) :
    Calls Try.prog 50 #[ptV p] w fun e w' => e = .returned (ptV ⟨0, 0, 0⟩) ∧ Below w.heap.size w w' := by
  have B0 : Below w.heap.size w ((w.alloc (.cells p.cells.toArray 26)).alloc (.cells #[.int .i64 0, .int .i64 0, .int .i64 0] 26)) := ((Below.refl _ w).alloc (Nat.le_refl _) _).alloc (by simp) _
  have hb0 := (Blk.newAt (w := w) (b := w.heap.size) rfl 26 p.cells).alloc (.cells #[.int .i64 0, .int .i64 0, .int .i64 0] 26)
  have hb1 := Blk.newAt (w := w.alloc (.cells p.cells.toArray 26)) (b := w.heap.size + 1) (by simp) 26 [.int .i64 0, .int .i64 0, .int .i64 0]
  have H := Lib.hid h
  clear h
  go_enter Try.func50, Try.ntmps50
  go_upto_region 1 with (fail)
  obtain ⟨w1, hw1⟩ : ∃ w1, (w.alloc (.cells p.cells.toArray 26)).alloc (.cells #[.int .i64 0, .int .i64 0, .int .i64 0] 26) = w1 := ⟨_, rfl⟩
  change Code.wp _ _ _ _ ((w.alloc (.cells p.cells.toArray 26)).alloc (.cells #[.int .i64 0, .int .i64 0, .int .i64 0] 26))
  rw [hw1] at B0 hb0 ⊢
  rw [show (w.alloc (.cells p.cells.toArray 26)).alloc (.cells [Value.int .i64 0, .int .i64 0, .int .i64 0].toArray 26) = w1 from hw1] at hb1
  clear hw1
  obtain ⟨c0, hc0⟩ : ∃ c, c = w.heap.size := ⟨_, rfl⟩
  simp only [← hc0] at hb0 hb1 ⊢
  have Hc0 := Lib.hid hc0
  have HB0 := Lib.hid B0
  have hs1 := B0.size
  have k0 : _ = some (Value.int .i64 p.x) := hb0.cell 0
  have k1 : _ = some (Value.int .i64 p.y) := hb0.cell 1
  have k2 : _ = some (Value.int .i64 p.z) := hb0.cell 2
  have Hb0 := Lib.hid hb0
  have Hb1 := Lib.hid hb1
  clear hc0 B0 hb0 hb1
  go_wp2_with fail
  refine (beyond58_any p 4398046511104 w1 (by decide) (by decide)).mono ?_
  rintro e w2 ⟨rfl, hB2⟩
  have HB2 := Lib.hid (HB0.out.trans (hB2.mono hs1))
  have hb0 := Hb0.out.below hB2 Hb0.out.lt
  have hb1 := Hb1.out.below hB2 Hb1.out.lt
  clear k0 k1 k2 hB2 Hb0 Hb1 HB0
  have k0 : _ = some (Value.int .i64 p.x) := hb0.cell 0
  have k1 : _ = some (Value.int .i64 p.y) := hb0.cell 1
  have k2 : _ = some (Value.int .i64 p.z) := hb0.cell 2
  have z0 : _ = some (Value.int .i64 0) := hb1.cell 0
  have z1 : _ = some (Value.int .i64 0) := hb1.cell 1
  have z2 : _ = some (Value.int .i64 0) := hb1.cell 2
  have f0 := hb1.frozen 0
  have f1 := hb1.frozen 1
  have f2 := hb1.frozen 2
  have hc0 := Hc0.out
  have hfin := ((hb1.set 0 (.int .i64 0)).set 1 (.int .i64 0)).set 2 (.int .i64 0)
  have hBf := ((HB2.out.setCell (p := ⟨c0 + 1, 0, none⟩) (by simp only; omega) (.int .i64 0)).setCell (p := ⟨c0 + 1, 1, none⟩) (by simp only; omega) (.int .i64 0)).setCell (p := ⟨c0 + 1, 2, none⟩) (by simp only; omega) (.int .i64 0)
  have Hfin := Lib.hid hfin
  have HBf := Lib.hid hBf
  have HZ : Hid (nearB 4398046511104 p = true → p.x = 0 ∧ p.y = 0 ∧ p.z = 0) := Lib.hid (fun hn => by
    have := H.out
    rw [hn] at this
    simp only [Bool.true_and, Bool.not_eq_false', decide_eq_true_eq] at this
    exact this)
  clear hb0 hb1 hc0 hfin hBf H
  cases hn : nearB 4398046511104 p with
  | false =>
    clear hn
    go_wp2
    obtain ⟨w9, hw9⟩ : ∃ w9, ((w2.setCell ⟨c0 + 1, 0, none⟩ (.int .i64 0)).setCell ⟨c0 + 1, 1, none⟩ (.int .i64 0)).setCell ⟨c0 + 1, 2, none⟩ (.int .i64 0) = w9 := ⟨_, rfl⟩
    rw [hw9] at Hfin HBf ⊢
    have r0 : _ = some (Value.int .i64 0) := Hfin.out.cell 0
    have r1 : _ = some (Value.int .i64 0) := Hfin.out.cell 1
    have r2 : _ = some (Value.int .i64 0) := Hfin.out.cell 2
    exact bodyPost_ret (v := ptV ⟨0, 0, 0⟩) (by simp [results, Try.f50, go_sem, r0, r1, r2]) rfl ⟨rfl, HBf.out⟩
  | true =>
    obtain ⟨x0, y0, z00⟩ := HZ.out hn
    rw [x0] at k0
    rw [y0] at k1
    rw [z00] at k2
    clear hn
    go_wp2
    obtain ⟨w9, hw9⟩ : ∃ w9, ((w2.setCell ⟨c0 + 1, 0, none⟩ (.int .i64 0)).setCell ⟨c0 + 1, 1, none⟩ (.int .i64 0)).setCell ⟨c0 + 1, 2, none⟩ (.int .i64 0) = w9 := ⟨_, rfl⟩
    rw [hw9] at Hfin HBf ⊢
    have r0 : _ = some (Value.int .i64 0) := Hfin.out.cell 0
    have r1 : _ = some (Value.int .i64 0) := Hfin.out.cell 1
    have r2 : _ = some (Value.int .i64 0) := Hfin.out.cell 2
    exact bodyPost_ret (v := ptV ⟨0, 0, 0⟩) (by simp [results, Try.f50, go_sem, r0, r1, r2]) rfl ⟨rfl, HBf.out⟩
set_option maxRecDepth 100000 in
theorem short50_some (p : Pt) (w : World) (h : (nearB 4398046511104 p && !decide (Zero p)) = true) :
    Calls Try.prog 50 #[ptV p] w fun e w' => e = .returned (ptV (shortP p)) ∧ Below w.heap.size w w' := by
  have B0 : Below w.heap.size w ((w.alloc (.cells p.cells.toArray 26)).alloc (.cells #[.int .i64 0, .int .i64 0, .int .i64 0] 26)) := ((Below.refl _ w).alloc (Nat.le_refl _) _).alloc (by simp) _
  have hb0 := (Blk.newAt (w := w) (b := w.heap.size) rfl 26 p.cells).alloc (.cells #[.int .i64 0, .int .i64 0, .int .i64 0] 26)
  have hb1 := Blk.newAt (w := w.alloc (.cells p.cells.toArray 26)) (b := w.heap.size + 1) (by simp) 26 [.int .i64 0, .int .i64 0, .int .i64 0]
  have h1 : nearB 4398046511104 p = true ∧ ¬ Zero p := by
    simp only [Bool.and_eq_true, Bool.not_eq_true', decide_eq_false_iff_not] at h
    exact h
  obtain ⟨hn, hz⟩ := h1
  have hnz : p.x = 0 → p.y = 0 → p.z = 0 → False := fun a b c => hz ⟨a, b, c⟩
  have Hn := Lib.hid hn
  have Hz := Lib.hid hz
  have Hnz := Lib.hid hnz
  have h2 := bare_near hz (nearB_iff.1 hn)
  have h3 := bare_zero hz
  have H2 := Lib.hid h2
  have H3 := Lib.hid h3
  have hend := half_end 22 (p := bareP p) h2 h3
  have HE := Lib.hid hend
  have HR : Hid (shortP p = bareP (halfP 22 (bareP p))) := Lib.hid (by unfold shortP; rw [if_pos h])
  obtain ⟨R, hR⟩ : ∃ R, R = shortP p := ⟨_, rfl⟩
  rw [← hR] at HR ⊢
  clear h hn hz hnz h2 h3 hend hR
  go_enter Try.func50, Try.ntmps50
  go_upto_region 1 with (fail)
  obtain ⟨w1, hw1⟩ : ∃ w1, (w.alloc (.cells p.cells.toArray 26)).alloc (.cells #[.int .i64 0, .int .i64 0, .int .i64 0] 26) = w1 := ⟨_, rfl⟩
  change Code.wp _ _ _ _ ((w.alloc (.cells p.cells.toArray 26)).alloc (.cells #[.int .i64 0, .int .i64 0, .int .i64 0] 26))
  rw [hw1] at B0 hb0 ⊢
  rw [show (w.alloc (.cells p.cells.toArray 26)).alloc (.cells [Value.int .i64 0, .int .i64 0, .int .i64 0].toArray 26) = w1 from hw1] at hb1
  clear hw1
  obtain ⟨c0, hc0⟩ : ∃ c, c = w.heap.size := ⟨_, rfl⟩
  simp only [← hc0] at hb0 hb1 ⊢
  have Hc0 := Lib.hid hc0
  have HB0 := Lib.hid B0
  have hs1 := B0.size
  have k0 : _ = some (Value.int .i64 p.x) := hb0.cell 0
  have k1 : _ = some (Value.int .i64 p.y) := hb0.cell 1
  have k2 : _ = some (Value.int .i64 p.z) := hb0.cell 2
  have Hb0 := Lib.hid hb0
  have Hb1 := Lib.hid hb1
  clear hc0 B0 hb0 hb1
  go_wp2_with fail
  refine (beyond58_any p 4398046511104 w1 (by decide) (by decide)).mono ?_
  rintro e w2 ⟨rfl, hB2⟩
  rw [Hn.out]
  have HB2 := Lib.hid (HB0.out.trans (hB2.mono hs1))
  have hb0 := Hb0.out.below hB2 Hb0.out.lt
  have hb1 := Hb1.out.below hB2 Hb1.out.lt
  clear k0 k1 k2 hB2 Hb0 Hb1 HB0
  have k0 : _ = some (Value.int .i64 p.x) := hb0.cell 0
  have k1 : _ = some (Value.int .i64 p.y) := hb0.cell 1
  have k2 : _ = some (Value.int .i64 p.z) := hb0.cell 2
  have g0 := hb0.frozen 0
  have g1 := hb0.frozen 1
  have g2 := hb0.frozen 2
  have Hb0 := Lib.hid hb0
  have Hb1 := Lib.hid hb1
  have hs2 := HB2.out.size
  clear hb0 hb1
  have hg26 := guard26
  have heq : ∀ W, (binOp .eql 26 (ptV p) (ptV ⟨0, 0, 0⟩)).run Try.prog W = .ok (.bool false) W := fun W => by rw [eqPt, eqP_zero, decide_eq_false Hz.out]
  go_upto_region 3 with (fail)
  clear heq hg26
  go_wp2_with fail
  refine (bare59_any p w2 (near_mono (nearB_iff.1 Hn.out) (by decide)) Hz.out).mono ?_
  rintro e w3 ⟨rfl, hB3⟩
  have hb0 := Hb0.out.below hB3 Hb0.out.lt
  have hb1 := Hb1.out.below hB3 Hb1.out.lt
  have HB3 := Lib.hid (HB2.out.trans (hB3.mono hs2))
  clear k0 k1 k2 g0 g1 g2 Hb0 Hb1 hB3 HB2
  have k0 : _ = some (Value.int .i64 p.x) := hb0.cell 0
  have k1 : _ = some (Value.int .i64 p.y) := hb0.cell 1
  have k2 : _ = some (Value.int .i64 p.z) := hb0.cell 2
  have g0 := hb0.frozen 0
  have g1 := hb0.frozen 1
  have g2 := hb0.frozen 2
  have hn01 : c0 ≠ c0 + 1 := by omega
  have hc0 := Hc0.out
  obtain ⟨B, hBd⟩ : ∃ B, B = bareP p := ⟨_, rfl⟩
  rw [← hBd] at H2 H3 HE HR ⊢
  have hb0' := ((hb0.set 0 (.int .i64 B.x)).set 1 (.int .i64 B.y)).set 2 (.int .i64 B.z)
  have hb1' := ((hb1.setCell_ne (p := ⟨c0, 0, none⟩) (Ne.symm hn01) (.int .i64 B.x)).setCell_ne (p := ⟨c0, 1, none⟩) (Ne.symm hn01) (.int .i64 B.y)).setCell_ne (p := ⟨c0, 2, none⟩) (Ne.symm hn01) (.int .i64 B.z)
  have hB4 := ((HB3.out.setCell (p := ⟨c0, 0, none⟩) (by simp only; omega) (.int .i64 B.x)).setCell (p := ⟨c0, 1, none⟩) (by simp only; omega) (.int .i64 B.y)).setCell (p := ⟨c0, 2, none⟩) (by simp only; omega) (.int .i64 B.z)
  have Hb0 := Lib.hid hb0'
  have Hb1 := Lib.hid hb1'
  have HB4 := Lib.hid hB4
  clear hb0 hb1 hb0' hb1' hB4 hc0 hBd HB3 hs2
  go_upto_block 4 with (fail)
  obtain ⟨w4, hw4⟩ : ∃ w4, ((w3.setCell ⟨c0, 0, none⟩ (.int .i64 B.x)).setCell ⟨c0, 1, none⟩ (.int .i64 B.y)).setCell ⟨c0, 2, none⟩ (.int .i64 B.z) = w4 := ⟨_, rfl⟩
  rw [hw4] at Hb0 Hb1 HB4 ⊢
  clear hw4 k0 k1 k2 g0 g1 g2
  obtain ⟨H, hH⟩ : ∃ H, H = halfP 22 B := ⟨_, rfl⟩
  rw [← hH] at HE HR
  have HH := Lib.hid hH
  clear hH
  go_loopg [] 22 (fun f wx => ∃ q : Pt, Hid (H = halfP f q) ∧ Hid (Near (1048576 * ((2 ^ f : Nat) : Int)) q) ∧ Hid (¬ Zero q) ∧ f ≤ 22 ∧ Blk wx c0 26 q.cells ∧ Blk wx (c0 + 1) 26 [.int .i64 0, .int .i64 0, .int .i64 0] ∧ Below w.heap.size w wx)
  case atStart => exact ⟨B, HH, Lib.hid H2.out, H3, Nat.le_refl _, Hb0.out, Hb1.out, HB4.out⟩
  case round =>
    obtain ⟨q, Hq, Hqn, Hqz, hf, hb0, hb1, hB⟩ := hrel
    have k0 : _ = some (Value.int .i64 q.x) := hb0.cell 0
    have k1 : _ = some (Value.int .i64 q.y) := hb0.cell 1
    have k2 : _ = some (Value.int .i64 q.z) := hb0.cell 2
    have hs := hB.size
    have Hb0 := Lib.hid hb0
    have Hb1 := Lib.hid hb1
    have HB := Lib.hid hB
    have hq62 : Near 4611686018427387904 q := near_mono Hqn.out (by
      have : (2 : Nat) ^ gk ≤ 2 ^ 22 := Nat.pow_le_pow_right (by decide) hf
      have e : (2 : Nat) ^ 22 = 4194304 := by decide
      omega)
    have Hq62 := Lib.hid hq62
    clear hb0 hb1 hB hq62
    go_wp2_with fail
    refine (beyond58_any q 1048576 wr (by decide) (by decide)).mono ?_
    rintro e w5 ⟨rfl, hB5⟩
    have hb0 := Hb0.out.below hB5 Hb0.out.lt
    have hb1 := Hb1.out.below hB5 Hb1.out.lt
    have HB5 := Lib.hid (HB.out.trans (hB5.mono hs))
    clear k0 k1 k2 Hb0 Hb1 hB5 HB
    have k0 : _ = some (Value.int .i64 q.x) := hb0.cell 0
    have k1 : _ = some (Value.int .i64 q.y) := hb0.cell 1
    have k2 : _ = some (Value.int .i64 q.z) := hb0.cell 2
    have Hb0 := Lib.hid hb0
    have Hb1 := Lib.hid hb1
    have hs5 := HB5.out.size
    clear hb0 hb1
    cases hq : nearB 1048576 q with
    | false =>
      cases gk with
      | zero =>
        have := Hqn.out
        simp only [Nat.pow_zero] at this
        rw [show (1048576 * ((1 : Nat) : Int)) = 1048576 by decide, ← nearB_iff, hq] at this
        exact absurd this (by decide)
      | succ f =>
        obtain ⟨n1, n2⟩ := half_facts hq Hqn.out
        have N1 := Lib.hid n1
        have N2 := Lib.hid n2
        have HHq : Hid (H = halfP f (divP 2 q)) := Lib.hid (by rw [Hq.out, halfP_far hq])
        clear n1 n2 hq
        go_wp2_with fail
        refine (of60_any 2 q w5 (by decide) Hq62.out).mono ?_
        rintro e w6 ⟨rfl, hB6⟩
        have hb0 := Hb0.out.below hB6 Hb0.out.lt
        have hb1 := Hb1.out.below hB6 Hb1.out.lt
        have HB6 := Lib.hid (HB5.out.trans (hB6.mono hs5))
        clear k0 k1 k2 Hb0 Hb1 hB6
        have k0 : _ = some (Value.int .i64 q.x) := hb0.cell 0
        have k1 : _ = some (Value.int .i64 q.y) := hb0.cell 1
        have k2 : _ = some (Value.int .i64 q.z) := hb0.cell 2
        have g0 := hb0.frozen 0
        have g1 := hb0.frozen 1
        have g2 := hb0.frozen 2
        obtain ⟨D, hD⟩ : ∃ D, D = divP 2 q := ⟨_, rfl⟩
        rw [← hD] at N1 N2 HHq ⊢
        have hc0 := Hc0.out
        have Hb0 := Lib.hid (((hb0.set 0 (.int .i64 D.x)).set 1 (.int .i64 D.y)).set 2 (.int .i64 D.z))
        have Hb1 := Lib.hid (((hb1.setCell_ne (p := ⟨c0, 0, none⟩) (Ne.symm hn01) (.int .i64 D.x)).setCell_ne (p := ⟨c0, 1, none⟩) (Ne.symm hn01) (.int .i64 D.y)).setCell_ne (p := ⟨c0, 2, none⟩) (Ne.symm hn01) (.int .i64 D.z))
        have HB7 := Lib.hid (((HB6.out.setCell (p := ⟨c0, 0, none⟩) (by simp only; omega) (.int .i64 D.x)).setCell (p := ⟨c0, 1, none⟩) (by simp only; omega) (.int .i64 D.y)).setCell (p := ⟨c0, 2, none⟩) (by simp only; omega) (.int .i64 D.z))
        clear hb0 hb1 hc0 hD
        go_wp2
        go_roundg f
        case rel => exact ⟨D, HHq, N1, N2, by omega, Hb0.out, Hb1.out, HB7.out⟩
        case measure => omega
    | true =>
      have hHq : H = q := by rw [Hq.out, halfP_near hq]
      have HHq := Lib.hid hHq
      clear hHq hq
      go_wp2_with fail
      refine (bare59_any q w5 Hq62.out Hqz.out).mono ?_
      rintro e w6 ⟨rfl, hB6⟩
      have hb1 := Hb1.out.below hB6 Hb1.out.lt
      have HB6 := Lib.hid (HB5.out.trans (hB6.mono hs5))
      rw [← HHq.out, ← HR.out]
      clear k0 k1 k2 Hb0 Hb1 hB6
      have z0 : _ = some (Value.int .i64 0) := hb1.cell 0
      have z1 : _ = some (Value.int .i64 0) := hb1.cell 1
      have z2 : _ = some (Value.int .i64 0) := hb1.cell 2
      have g0 := hb1.frozen 0
      have g1 := hb1.frozen 1
      have g2 := hb1.frozen 2
      have hc0 := Hc0.out
      have Hfin := Lib.hid (((hb1.set 0 (.int .i64 R.x)).set 1 (.int .i64 R.y)).set 2 (.int .i64 R.z))
      have HBf := Lib.hid (((HB6.out.setCell (p := ⟨c0 + 1, 0, none⟩) (by simp only; omega) (.int .i64 R.x)).setCell (p := ⟨c0 + 1, 1, none⟩) (by simp only; omega) (.int .i64 R.y)).setCell (p := ⟨c0 + 1, 2, none⟩) (by simp only; omega) (.int .i64 R.z))
      clear hb1 hc0
      go_wp2
      obtain ⟨w9, hw9⟩ : ∃ w9, ((w6.setCell ⟨c0 + 1, 0, none⟩ (.int .i64 R.x)).setCell ⟨c0 + 1, 1, none⟩ (.int .i64 R.y)).setCell ⟨c0 + 1, 2, none⟩ (.int .i64 R.z) = w9 := ⟨_, rfl⟩
      rw [hw9] at Hfin HBf ⊢
      have r0 : _ = some (Value.int .i64 R.x) := Hfin.out.cell 0
      have r1 : _ = some (Value.int .i64 R.y) := Hfin.out.cell 1
      have r2 : _ = some (Value.int .i64 R.z) := Hfin.out.cell 2
      exact bodyPost_ret (v := ptV R) (by simp [results, Try.f50, go_sem, r0, r1, r2]) rfl ⟨rfl, HBf.out⟩
theorem short50_any (p : Pt) (w : World) : Calls Try.prog 50 #[ptV p] w fun e w' => e = .returned (ptV (shortP p)) ∧ Below w.heap.size w w' := by
  cases h : (nearB 4398046511104 p && !decide (Zero p)) with
  | true => exact short50_some p w h
  | false =>
    have e : shortP p = ⟨0, 0, 0⟩ := by unfold shortP; rw [h]; rfl
    rw [e]
    exact short50_zero p w h
end Go.Proofs.Ytpbpdgknjbjlcaa
/- Contacts: a direction made long. -/
namespace Go.Proofs.Ytpbpdgknjbjlcaa
open Go.RowKit
def dbl (p : Pt) : Pt := ⟨2 * p.x, 2 * p.y, 2 * p.z⟩
def dblP : Nat → Pt → Pt
  | 0, p => p
  | k + 1, p => if nearB 524288 p then dblP k (dbl p) else p
theorem dblP_far {p : Pt} (h : nearB 524288 p = false) : ∀ k, dblP k p = p
  | 0 => rfl
  | k + 1 => by unfold dblP; rw [if_neg (by rw [h]; decide)]
theorem dblP_near {p : Pt} (h : nearB 524288 p = true) (k : Nat) : dblP (k + 1) p = dblP k (dbl p) := by
  show (if nearB 524288 p then dblP k (dbl p) else p) = _
  rw [h]
  rfl
def Big (f : Nat) (p : Pt) : Prop := f ≤ 20 ∧ ¬ Near (((2 ^ (20 - f) : Nat) : Int) - 1) p
theorem big_start {p : Pt} (h : ¬ Zero p) : Big 20 p := by
  refine ⟨Nat.le_refl _, fun hn => h ?_⟩
  unfold Near at hn
  unfold Zero
  simp at hn
  omega
theorem big_dbl {p : Pt} {f : Nat} (h : Big (f + 1) p) : Big f (dbl p) := by
  obtain ⟨h1, h2⟩ := h
  refine ⟨by omega, fun hn => h2 ?_⟩
  have e : (2 ^ (20 - f) : Nat) = 2 * 2 ^ (20 - (f + 1)) := by
    rw [show 20 - f = 20 - (f + 1) + 1 by omega, Nat.pow_succ]
    omega
  rw [e] at hn
  unfold Near dbl at hn
  unfold Near
  simp only [Int.natCast_mul] at hn
  omega
theorem big_far {p : Pt} (h : Big 0 p) : nearB 524288 p = false := by
  cases hn : nearB 524288 p with
  | false => rfl
  | true =>
    have := near_mono (M := ((2 ^ (20 - 0) : Nat) : Int) - 1) (nearB_iff.1 hn) (by decide)
    exact absurd this h.2
theorem dbl_near {p : Pt} (h : nearB 524288 p = true) : Near 1048576 (dbl p) := by
  have := nearB_iff.1 h
  unfold Near at this
  unfold Near dbl
  simp only
  omega
theorem dbl_end : ∀ (f : Nat) {p : Pt}, Big f p → Near 1048576 p → Near 1048576 (dblP f p) ∧ nearB 524288 (dblP f p) = false
  | 0, p, h, hn => ⟨hn, big_far h⟩
  | f + 1, p, h, hn => by
    cases hh : nearB 524288 p with
    | false => rw [dblP_far hh]; exact ⟨hn, hh⟩
    | true => rw [dblP_near hh]; exact dbl_end f (big_dbl h) (dbl_near hh)
/-- A direction made long; false: it is none. -/
def lenP (p : Pt) : Pt × Bool := if Zero (shortP p) then (⟨0, 0, 0⟩, false) else (dblP 20 (shortP p), true)
theorem len_facts {p q : Pt} (h : lenP p = (q, true)) : Near 1048576 q ∧ nearB 524288 q = false := by
  unfold lenP at h
  split at h
  · cases h
  · rename_i hz
    have e : dblP 20 (shortP p) = q := congrArg Prod.fst h
    rw [← e]
    exact dbl_end 20 (big_start hz) (short_near p)
set_option maxRecDepth 100000 in
theorem lengthen30_any (p : Pt) (w : World) : Calls Try.prog 30 #[ptV p] w fun e w' => e = .returned (.tuple #[ptV (lenP p).1, .bool (lenP p).2]) ∧ Below w.heap.size w w' := by
  have B0 : Below w.heap.size w ((w.alloc (.cells p.cells.toArray 26)).alloc (.cells #[.int .i64 0, .int .i64 0, .int .i64 0] 26)) := ((Below.refl _ w).alloc (Nat.le_refl _) _).alloc (by simp) _
  have hb0 := (Blk.newAt (w := w) (b := w.heap.size) rfl 26 p.cells).alloc (.cells #[.int .i64 0, .int .i64 0, .int .i64 0] 26)
  have hb1 := Blk.newAt (w := w.alloc (.cells p.cells.toArray 26)) (b := w.heap.size + 1) (by simp) 26 [.int .i64 0, .int .i64 0, .int .i64 0]
  obtain ⟨LQ, hLQ⟩ : ∃ LQ, LQ = lenP p := ⟨_, rfl⟩
  rw [← hLQ]
  have HLQ := Lib.hid hLQ
  clear hLQ
  go_enter Try.func30, Try.ntmps30
  go_upto_region 1 with (fail)
  obtain ⟨w1, hw1⟩ : ∃ w1, (w.alloc (.cells p.cells.toArray 26)).alloc (.cells #[.int .i64 0, .int .i64 0, .int .i64 0] 26) = w1 := ⟨_, rfl⟩
  change Code.wp _ _ _ _ ((w.alloc (.cells p.cells.toArray 26)).alloc (.cells #[.int .i64 0, .int .i64 0, .int .i64 0] 26))
  rw [hw1] at B0 hb0 ⊢
  rw [show (w.alloc (.cells p.cells.toArray 26)).alloc (.cells [Value.int .i64 0, .int .i64 0, .int .i64 0].toArray 26) = w1 from hw1] at hb1
  clear hw1
  obtain ⟨c0, hc0⟩ : ∃ c, c = w.heap.size := ⟨_, rfl⟩
  simp only [← hc0] at hb0 hb1 ⊢
  have Hc0 := Lib.hid hc0
  have HB0 := Lib.hid B0
  have hs1 := B0.size
  have k0 : _ = some (Value.int .i64 p.x) := hb0.cell 0
  have k1 : _ = some (Value.int .i64 p.y) := hb0.cell 1
  have k2 : _ = some (Value.int .i64 p.z) := hb0.cell 2
  have Hb0 := Lib.hid hb0
  have Hb1 := Lib.hid hb1
  have hn01 : c0 ≠ c0 + 1 := by omega
  clear hc0 B0 hb0 hb1
  go_wp2_with fail
  refine (short50_any p w1).mono ?_
  rintro e w3 ⟨rfl, hB3⟩
  have hb0 := Hb0.out.below hB3 Hb0.out.lt
  have hb1 := Hb1.out.below hB3 Hb1.out.lt
  have HB3 := Lib.hid (HB0.out.trans (hB3.mono hs1))
  clear k0 k1 k2 Hb0 Hb1 hB3 HB0
  have k0 : _ = some (Value.int .i64 p.x) := hb0.cell 0
  have k1 : _ = some (Value.int .i64 p.y) := hb0.cell 1
  have k2 : _ = some (Value.int .i64 p.z) := hb0.cell 2
  have g0 := hb0.frozen 0
  have g1 := hb0.frozen 1
  have g2 := hb0.frozen 2
  have hc0 := Hc0.out
  obtain ⟨B, hBd⟩ : ∃ B, B = shortP p := ⟨_, rfl⟩
  rw [← hBd]
  have HBn : Hid (Near 1048576 B) := Lib.hid (by rw [hBd]; exact short_near p)
  have HBd := Lib.hid hBd
  have hb0' := ((hb0.set 0 (.int .i64 B.x)).set 1 (.int .i64 B.y)).set 2 (.int .i64 B.z)
  have hb1' := ((hb1.setCell_ne (p := ⟨c0, 0, none⟩) (Ne.symm hn01) (.int .i64 B.x)).setCell_ne (p := ⟨c0, 1, none⟩) (Ne.symm hn01) (.int .i64 B.y)).setCell_ne (p := ⟨c0, 2, none⟩) (Ne.symm hn01) (.int .i64 B.z)
  have hB4 := ((HB3.out.setCell (p := ⟨c0, 0, none⟩) (by simp only; omega) (.int .i64 B.x)).setCell (p := ⟨c0, 1, none⟩) (by simp only; omega) (.int .i64 B.y)).setCell (p := ⟨c0, 2, none⟩) (by simp only; omega) (.int .i64 B.z)
  have Hb0 := Lib.hid hb0'
  have Hb1 := Lib.hid hb1'
  have HB4 := Lib.hid hB4
  clear hb0 hb1 hb0' hb1' hB4 hc0 hBd HB3 hs1
  go_upto_region 2 with (fail)
  obtain ⟨w4, hw4⟩ : ∃ w4, ((w3.setCell ⟨c0, 0, none⟩ (.int .i64 B.x)).setCell ⟨c0, 1, none⟩ (.int .i64 B.y)).setCell ⟨c0, 2, none⟩ (.int .i64 B.z) = w4 := ⟨_, rfl⟩
  rw [hw4] at Hb0 Hb1 HB4 ⊢
  clear hw4 k0 k1 k2 g0 g1 g2
  have k0 : _ = some (Value.int .i64 B.x) := Hb0.out.cell 0
  have k1 : _ = some (Value.int .i64 B.y) := Hb0.out.cell 1
  have k2 : _ = some (Value.int .i64 B.z) := Hb0.out.cell 2
  have hg26 := guard26
  by_cases hz : Zero B
  · have heq : ∀ W, (binOp .eql 26 (ptV B) (ptV ⟨0, 0, 0⟩)).run Try.prog W = .ok (.bool true) W := fun W => by rw [eqPt, eqP_zero, decide_eq_true hz]
    have hR : LQ = (⟨0, 0, 0⟩, false) := by rw [HLQ.out]; unfold lenP; rw [← HBd.out, if_pos hz]
    obtain ⟨x0, y0, z00⟩ := hz
    have HX : Hid (B.x = 0 ∧ B.y = 0 ∧ B.z = 0) := Lib.hid ⟨x0, y0, z00⟩
    have z0 : _ = some (Value.int .i64 0) := Hb1.out.cell 0
    have z1 : _ = some (Value.int .i64 0) := Hb1.out.cell 1
    have z2 : _ = some (Value.int .i64 0) := Hb1.out.cell 2
    have g0 := Hb1.out.frozen 0
    have g1 := Hb1.out.frozen 1
    have g2 := Hb1.out.frozen 2
    have hc0 := Hc0.out
    have Hfin := Lib.hid (((Hb1.out.set 0 (.int .i64 B.x)).set 1 (.int .i64 B.y)).set 2 (.int .i64 B.z))
    have HBf := Lib.hid (((HB4.out.setCell (p := ⟨c0 + 1, 0, none⟩) (by simp only; omega) (.int .i64 B.x)).setCell (p := ⟨c0 + 1, 1, none⟩) (by simp only; omega) (.int .i64 B.y)).setCell (p := ⟨c0 + 1, 2, none⟩) (by simp only; omega) (.int .i64 B.z))
    have HR := Lib.hid hR
    clear hc0 x0 y0 z00 hR
    go_wp2
    obtain ⟨w9, hw9⟩ : ∃ w9, ((w4.setCell ⟨c0 + 1, 0, none⟩ (.int .i64 B.x)).setCell ⟨c0 + 1, 1, none⟩ (.int .i64 B.y)).setCell ⟨c0 + 1, 2, none⟩ (.int .i64 B.z) = w9 := ⟨_, rfl⟩
    rw [hw9] at Hfin HBf ⊢
    obtain ⟨x0, y0, z00⟩ := HX.out
    have r0 : w9.cell? ⟨c0 + 1, 0, none⟩ = some (Value.int .i64 0) := by rw [← x0]; exact Hfin.out.cell 0
    have r1 : w9.cell? ⟨c0 + 1, 1, none⟩ = some (Value.int .i64 0) := by rw [← y0]; exact Hfin.out.cell 1
    have r2 : w9.cell? ⟨c0 + 1, 2, none⟩ = some (Value.int .i64 0) := by rw [← z00]; exact Hfin.out.cell 2
    exact bodyPost_ret (v := .tuple #[ptV ⟨0, 0, 0⟩, .bool false]) (by simp [results, Try.f30, go_sem, r0, r1, r2]) rfl ⟨by rw [HR.out], HBf.out⟩
  · have heq : ∀ W, (binOp .eql 26 (ptV B) (ptV ⟨0, 0, 0⟩)).run Try.prog W = .ok (.bool false) W := fun W => by rw [eqPt, eqP_zero, decide_eq_false hz]
    have hR : LQ = (dblP 20 B, true) := by rw [HLQ.out]; unfold lenP; rw [← HBd.out, if_neg hz]
    have Hbig := Lib.hid (big_start hz)
    obtain ⟨H, hH⟩ : ∃ H, H = dblP 20 B := ⟨_, rfl⟩
    rw [← hH] at hR
    have HH := Lib.hid hH
    have HR := Lib.hid hR
    clear hH hR hz HLQ HBd
    go_upto_block 4 with (fail)
    clear k0 k1 k2 heq hg26
    go_loopg [] 20 (fun f wx => ∃ q : Pt, Hid (H = dblP f q) ∧ Hid (Big f q) ∧ Hid (Near 1048576 q) ∧ Blk wx c0 26 q.cells ∧ Blk wx (c0 + 1) 26 [.int .i64 0, .int .i64 0, .int .i64 0] ∧ Below w.heap.size w wx)
    case atStart => exact ⟨B, HH, Hbig, HBn, Hb0.out, Hb1.out, HB4.out⟩
    case round =>
      clear HH Hbig HBn Hb0 Hb1 HB4
      obtain ⟨q, Hq, Hqb, Hqn, hb0, hb1, hB⟩ := hrel
      have hs := hB.size
      have Hb0 := Lib.hid hb0
      have Hb1 := Lib.hid hb1
      have HB := Lib.hid hB
      have HQ : Hid (∀ W, Below wr.heap.size wr W → (fun W => W.cell? ⟨c0, 0, none⟩ = some (.int .i64 q.x) ∧ W.cell? ⟨c0, 1, none⟩ = some (.int .i64 q.y) ∧ W.cell? ⟨c0, 2, none⟩ = some (.int .i64 q.z)) W) := Lib.hid fun W hW => by
        have h := hb0.below hW hb0.lt
        exact ⟨h.cell 0, h.cell 1, h.cell 2⟩
      obtain ⟨nb, hnb⟩ : ∃ nb, nb = nearB 524288 q := ⟨_, rfl⟩
      have Hnb := Lib.hid hnb
      have HBc := (Below.refl wr.heap.size wr).drew
      clear hb0 hb1 hB hnb
      go_upto_region 4 with (fail)
      go_region_held3 (fun W => W.cell? ⟨c0, 0, none⟩ = some (.int .i64 q.x) ∧ W.cell? ⟨c0, 1, none⟩ = some (.int .i64 q.y) ∧ W.cell? ⟨c0, 2, none⟩ = some (.int .i64 q.z)) (first | with_reducible exact HQ.out _ HBc | exact HQ.out _ HBc)
        (first
          | (go_at_call 33; with_reducible refine (beyond33_new 524288 _).mono ?_; rintro e wn ⟨⟨bn, rfl, hbn⟩, hBn⟩; replace HBc := HBc.trans (hBn.mono HBc.size); clear hBn)
          | (go_at_call 52; refine (beyond52_any q 524288 _ _ (by decide) (by decide) hbn).mono ?_; rintro e wm ⟨rfl, hBm⟩; rw [← Hnb.out]; replace HBc := HBc.trans (hBm.mono HBc.size); clear hBm hbn))
      have hb0 := Hb0.out.below HBc Hb0.out.lt
      have hb1 := Hb1.out.below HBc Hb1.out.lt
      have HB5 := Lib.hid (HB.out.trans (HBc.mono hs))
      clear HBc HQ Hb0 Hb1 HB
      have k0 : _ = some (Value.int .i64 q.x) := hb0.cell 0
      have k1 : _ = some (Value.int .i64 q.y) := hb0.cell 1
      have k2 : _ = some (Value.int .i64 q.z) := hb0.cell 2
      have hc0 := Hc0.out
      cases nb with
      | true =>
        cases gk with
        | zero =>
          have := big_far Hqb.out
          rw [← Hnb.out] at this
          exact absurd this (by decide)
        | succ f =>
          have N1 := Lib.hid (big_dbl Hqb.out)
          have N2 := Lib.hid (dbl_near Hnb.out.symm)
          have HHq : Hid (H = dblP f (dbl q)) := Lib.hid (by rw [Hq.out, dblP_near Hnb.out.symm])
          have g0 := hb0.frozen 0
          have g1 := hb0.frozen 1
          have g2 := hb0.frozen 2
          have hqn := Hqn.out
          obtain ⟨⟨a1, a2⟩, ⟨a3, a4⟩, a5, a6⟩ := hqn
          have e1 := IntWalk.i64_in (2 * q.x) (by omega)
          have e2 := IntWalk.i64_in (2 * q.y) (by omega)
          have e3 := IntWalk.i64_in (2 * q.z) (by omega)
          have Hb0 : Hid (Blk (((wm.setCell ⟨c0, 0, none⟩ (.int .i64 (2 * q.x))).setCell ⟨c0, 1, none⟩ (.int .i64 (2 * q.y))).setCell ⟨c0, 2, none⟩ (.int .i64 (2 * q.z))) c0 26 (dbl q).cells) := Lib.hid (((hb0.set 0 (.int .i64 (2 * q.x))).set 1 (.int .i64 (2 * q.y))).set 2 (.int .i64 (2 * q.z)))
          have Hb1 := Lib.hid (((hb1.setCell_ne (p := ⟨c0, 0, none⟩) (Ne.symm hn01) (.int .i64 (2 * q.x))).setCell_ne (p := ⟨c0, 1, none⟩) (Ne.symm hn01) (.int .i64 (2 * q.y))).setCell_ne (p := ⟨c0, 2, none⟩) (Ne.symm hn01) (.int .i64 (2 * q.z)))
          have HB7 := Lib.hid (((HB5.out.setCell (p := ⟨c0, 0, none⟩) (by simp only; omega) (.int .i64 (2 * q.x))).setCell (p := ⟨c0, 1, none⟩) (by simp only; omega) (.int .i64 (2 * q.y))).setCell (p := ⟨c0, 2, none⟩) (by simp only; omega) (.int .i64 (2 * q.z)))
          clear hb0 hb1 hc0 a1 a2 a3 a4 a5 a6
          go_wp2
          go_roundg f
          case rel => exact ⟨dbl q, HHq, N1, N2, Hb0.out, Hb1.out, HB7.out⟩
          case measure => omega
      | false =>
        have hHq : H = q := by rw [Hq.out, dblP_far Hnb.out.symm]
        have HHq := Lib.hid hHq
        have z0 : _ = some (Value.int .i64 0) := hb1.cell 0
        have z1 : _ = some (Value.int .i64 0) := hb1.cell 1
        have z2 : _ = some (Value.int .i64 0) := hb1.cell 2
        have g0 := hb1.frozen 0
        have g1 := hb1.frozen 1
        have g2 := hb1.frozen 2
        have Hfin := Lib.hid (((hb1.set 0 (.int .i64 q.x)).set 1 (.int .i64 q.y)).set 2 (.int .i64 q.z))
        have HBf := Lib.hid (((HB5.out.setCell (p := ⟨c0 + 1, 0, none⟩) (by simp only; omega) (.int .i64 q.x)).setCell (p := ⟨c0 + 1, 1, none⟩) (by simp only; omega) (.int .i64 q.y)).setCell (p := ⟨c0 + 1, 2, none⟩) (by simp only; omega) (.int .i64 q.z))
        clear hb0 hb1 hc0 hHq
        go_wp2
        obtain ⟨w9, hw9⟩ : ∃ w9, ((wm.setCell ⟨c0 + 1, 0, none⟩ (.int .i64 q.x)).setCell ⟨c0 + 1, 1, none⟩ (.int .i64 q.y)).setCell ⟨c0 + 1, 2, none⟩ (.int .i64 q.z) = w9 := ⟨_, rfl⟩
        rw [hw9] at Hfin HBf ⊢
        have r0 : _ = some (Value.int .i64 q.x) := Hfin.out.cell 0
        have r1 : _ = some (Value.int .i64 q.y) := Hfin.out.cell 1
        have r2 : _ = some (Value.int .i64 q.z) := Hfin.out.cell 2
        exact bodyPost_ret (v := .tuple #[ptV q, .bool true]) (by simp [results, Try.f30, go_sem, r0, r1, r2]) rfl ⟨by rw [HR.out, HHq.out], HBf.out⟩
end Go.Proofs.Ytpbpdgknjbjlcaa
