/- Contacts: crosses; how far apart two are along a direction. -/
import Derived.Test.YtpbpdgknjbjlcaaCw
import Derived.Test.YtpbpdgknjbjlcaaCg
namespace Go.Proofs.Ytpbpdgknjbjlcaa
open Go.RowKit
def crossP (a b : Pt) : Pt := ⟨a.y * b.z - a.z * b.y, a.z * b.x - a.x * b.z, a.x * b.y - a.y * b.x⟩
set_option maxRecDepth 100000 in
theorem cross49_any (a b : Pt) (w : World) (ha : Near 1048576 a) (hb : Near 1048576 b) : Calls Try.prog 49 #[ptV a, ptV b] w fun e w' => e = .returned (ptV (crossP a b)) ∧ Below w.heap.size w w' := by
  have h1 := mul_near ha.2.1 hb.2.2
  have h2 := mul_near ha.2.2 hb.2.1
  have h3 := mul_near ha.2.2 hb.1
  have h4 := mul_near ha.1 hb.2.2
  have h5 := mul_near ha.1 hb.2.1
  have h6 := mul_near ha.2.1 hb.1
  have e1 := IntWalk.i64_in (a.y * b.z) (by omega)
  have e2 := IntWalk.i64_in (a.z * b.y) (by omega)
  have e3 := IntWalk.i64_in (a.z * b.x) (by omega)
  have e4 := IntWalk.i64_in (a.x * b.z) (by omega)
  have e5 := IntWalk.i64_in (a.x * b.y) (by omega)
  have e6 := IntWalk.i64_in (a.y * b.x) (by omega)
  have e7 := IntWalk.i64_in (a.y * b.z - a.z * b.y) (by omega)
  have e8 := IntWalk.i64_in (a.z * b.x - a.x * b.z) (by omega)
  have e9 := IntWalk.i64_in (a.x * b.y - a.y * b.x) (by omega)
  clear h1 h2 h3 h4 h5 h6 ha hb
  go_enter Try.func49, Try.ntmps49
  go_wp2
  exact bodyPost_ret (v := ptV (crossP a b)) (by simp [results, Try.f49, go_sem, crossP]) rfl ⟨rfl, (((Below.refl _ w).alloc (Nat.le_refl _) _).alloc (by simp) _).alloc (by simp; omega) _⟩
theorem cross_near {a b : Pt} (ha : Near 1048576 a) (hb : Near 1048576 b) : Near 2199023255552 (crossP a b) := by
  have h1 := mul_near ha.2.1 hb.2.2
  have h2 := mul_near ha.2.2 hb.2.1
  have h3 := mul_near ha.2.2 hb.1
  have h4 := mul_near ha.1 hb.2.2
  have h5 := mul_near ha.1 hb.2.1
  have h6 := mul_near ha.2.1 hb.1
  unfold Near crossP
  simp only
  omega
/-- How far apart, of a distance along a direction. -/
def gapP (s up down ra rb : Int) : Int := (if 0 ≤ s then s.tdiv up else -((-s + down - 1).tdiv down)) - ra - rb
theorem tdiv_small {x g K : Int} (hx : -K ≤ x ∧ x ≤ K) (hg : 1 ≤ g) : -K ≤ x.tdiv g ∧ x.tdiv g ≤ K := tdiv_near hx hg
theorem gap_range {s up down ra rb : Int} (hs : -2251799813685248 ≤ s ∧ s ≤ 2251799813685248) (hu : 1 ≤ up) (hd : 1 ≤ down ∧ down ≤ 1073741824) (ha : 0 ≤ ra ∧ ra ≤ 1048576) (hb : 0 ≤ rb ∧ rb ≤ 1048576) : -2251803034910720 ≤ gapP s up down ra rb ∧ gapP s up down ra rb ≤ 2251803034910720 := by
  have h1 := tdiv_small (K := 2251799813685248) hs hu
  have h2 := tdiv_small (x := -s + down - 1) (K := 2251800887427072) (by omega) hd.1
  unfold gapP
  split <;> omega
set_option maxRecDepth 100000 in
theorem gap51_any (s up down ra rb : Int) (av bv : List Value) (b1 b2 b3 b4 : Nat) (w : World) (k1 : Blk w b1 3 [.int .i64 up]) (k2 : Blk w b2 24 av) (ka : av[3]? = some (.int .i64 ra)) (k3 : Blk w b3 24 bv) (kb : bv[3]? = some (.int .i64 rb)) (k4 : Blk w b4 3 [.int .i64 down])
    (hs : -2251799813685248 ≤ s ∧ s ≤ 2251799813685248) (hu : 1 ≤ up) (hd : 1 ≤ down ∧ down ≤ 1073741824) (ha : 0 ≤ ra ∧ ra ≤ 1048576) (hb : 0 ≤ rb ∧ rb ≤ 1048576) :
    Calls Try.prog 51 #[.int .i64 s, .pointer (some ⟨b1, 0, none⟩), .pointer (some ⟨b2, 0, none⟩), .pointer (some ⟨b3, 0, none⟩), .pointer (some ⟨b4, 0, none⟩)] w fun e w' => e = .returned (.int .i64 (gapP s up down ra rb)) ∧ Below w.heap.size w w' := by
  obtain ⟨t1, t2⟩ := tdiv_small (K := 2251799813685248) hs hu
  obtain ⟨t3, t4⟩ := tdiv_small (x := -s + down - 1) (K := 2251800887427072) (by omega) hd.1
  have hu0 : (up == 0) = false := by simp; omega
  have hd0 : (down == 0) = false := by simp; omega
  have hu1 : ¬ up = 0 := by omega
  have hd1 : ¬ down = 0 := by omega
  obtain ⟨s0, s1⟩ := hs
  obtain ⟨d0, d1⟩ := hd
  obtain ⟨a0, a1⟩ := ha
  obtain ⟨b0, b5⟩ := hb
  have hv : gapP s up down ra rb = (if 0 ≤ s then s.tdiv up else -((-s + down - 1).tdiv down)) - ra - rb := rfl
  have c1 : ∀ u : After w, u.W.cell? ⟨b1, 0, none⟩ = some (.int .i64 up) := fun u => (k1.below u.h k1.lt).cell 0
  have c2 : ∀ u : After w, u.W.cell? ⟨b2, 3, none⟩ = some (.int .i64 ra) := fun u => by rw [(k2.below u.h k2.lt).cell 3, ka]
  have c3 : ∀ u : After w, u.W.cell? ⟨b3, 3, none⟩ = some (.int .i64 rb) := fun u => by rw [(k3.below u.h k3.lt).cell 3, kb]
  have c4 : ∀ u : After w, u.W.cell? ⟨b4, 0, none⟩ = some (.int .i64 down) := fun u => (k4.below u.h k4.lt).cell 0
  clear k1 k2 k3 k4 ka kb
  by_cases h : 0 ≤ s
  · obtain ⟨q, hq⟩ : ∃ q, q = s.tdiv up := ⟨_, rfl⟩
    rw [if_pos h, ← hq] at hv
    rw [hv]
    rw [← hq] at t1 t2
    have e1 := IntWalk.i64_in q (by omega)
    have e2 := IntWalk.i64_in (q - ra) (by omega)
    have e3 := IntWalk.i64_in (q - ra - rb) (by omega)
    have hq' := hq.symm
    clear hv hq t3 t4
    go_enter Try.func51, Try.ntmps51
    go_upto_region 2 with (fail)
    refine wp_region_after (by kernel_rfl) (by kernel_rfl) ?_
    repeat (go_big_quiet_step (fail))
    refine wpQuiet_nil ?_
    intro w9 hw9
    obtain ⟨u9, rfl⟩ := hw9
    have hB := u9.h
    clear c1 c2 c3 c4
    go_wp2
    go_ret
    exact ⟨rfl, hB⟩
  · obtain ⟨q, hq⟩ : ∃ q, q = (-s + down - 1).tdiv down := ⟨_, rfl⟩
    rw [if_neg h, ← hq] at hv
    rw [hv]
    rw [← hq] at t3 t4
    have e1 := IntWalk.i64_in q (by omega)
    have e2 := IntWalk.i64_in (-q) (by omega)
    have e3 := IntWalk.i64_in (-q - ra) (by omega)
    have e4 := IntWalk.i64_in (-q - ra - rb) (by omega)
    have e5 := IntWalk.i64_in (-s) (by omega)
    have e6 := IntWalk.i64_in (-s + down) (by omega)
    have e7 := IntWalk.i64_in (-s + down - 1) (by omega)
    have hq' := hq.symm
    clear hv hq t1 t2
    go_enter Try.func51, Try.ntmps51
    go_upto_region 3 with (fail)
    refine wp_region_after (by kernel_rfl) (by kernel_rfl) ?_
    repeat (go_big_quiet_step (fail))
    refine wpQuiet_nil ?_
    intro w9 hw9
    obtain ⟨u9, rfl⟩ := hw9
    have hB := u9.h
    clear c1 c2 c3 c4
    go_wp2
    go_ret
    exact ⟨rfl, hB⟩
end Go.Proofs.Ytpbpdgknjbjlcaa
