/- IslandRests: the walk. -/
import Derived.Test.YtafljpfephomoaaA5
import Derived.Test.YtafljpfephomoaaRp
namespace Go.Proofs.Ytafljpfephomoaa
open Go.RowKit
theorem Rd.take {w : World} {ao : Option Addr} {n cap sz k : Nat} {xs : List Value} (h : Rd w (.slice ao n cap) n sz xs) (hk : k ≤ n) : Rd w (.slice ao k cap) k sz (xs.take (k * sz)) := by
  obtain ⟨a, c, e, h1, h2, h3, h4⟩ := h
  simp only [Value.slice.injEq, true_and] at e
  obtain ⟨rfl, rfl⟩ := e
  have hm : k * sz ≤ n * sz := Nat.mul_le_mul_right _ hk
  refine ⟨_, _, rfl, by rw [List.length_take]; omega, by omega, h3, fun hne => ?_⟩
  obtain ⟨b, off, e, h5, h6⟩ := h4 (by omega)
  exact ⟨b, off, e, h5, fun i hi => by rw [h6 i (by omega), List.getElem?_take_of_lt hi]⟩

theorem Rd.addr {w : World} {ao : Option Addr} {n cap sz : Nat} {xs : List Value} (h : Rd w (.slice ao n cap) n sz xs) (hn : n ≠ 0) : ∃ b off, ao = some ⟨b, off, none⟩ := by
  obtain ⟨a, c, e, _, _, _, h4⟩ := h
  simp only [Value.slice.injEq, true_and] at e
  obtain ⟨rfl, rfl⟩ := e
  obtain ⟨b, off, e, _⟩ := h4 hn
  exact ⟨b, off, e⟩
theorem Rd.shape {w : World} {v : Value} {n sz : Nat} {xs : List Value} (h : Rd w v n sz xs) : ∃ a c, v = .slice a n c ∧ n ≤ c ∧ c ≤ 9223372036854775807 := by
  obtain ⟨a, c, e, _, h2, h3, _⟩ := h; exact ⟨a, c, e, h2, h3⟩
theorem Rd.int {w : World} {b off n cap : Nat} {xs : List Int} (h : Rd w (.slice (some ⟨b, off, none⟩) n cap) n 1 (ints xs)) (hl : xs.length = n) {i : Nat} (hi : i < n) : w.cell? ⟨b, off + i, none⟩ = some (.int .i64 (xs[i]?.getD 0)) := by
  rw [h.at (by omega), ints_get (by omega)]
theorem Rd.bool {w : World} {b off n cap : Nat} {xs : List Bool} (h : Rd w (.slice (some ⟨b, off, none⟩) n cap) n 1 (bools xs)) (hl : xs.length = n) {i : Nat} (hi : i < n) : w.cell? ⟨b, off + i, none⟩ = some (.bool (xs[i]?.getD false)) := by
  rw [h.at (by omega), bools_get (by omega)]

set_option maxRecDepth 100000 in
set_option maxHeartbeats 4000000 in
theorem rests_any (gv qv : Value) (n0 m : Nat) (gs0 qs : List Int) (hn0 : gs0.length = n0) (hm : qs.length = m) (need : Int) (w : World) (hr0 : Rd w gv n0 1 (ints gs0)) (hq : Rd w qv m 1 (ints qs)) :
    Calls Try.prog 7 #[gv, qv, .int .i64 need] w fun e w' => e = .returned (.bool true) ∧ Below w.heap.size w w' := by
  obtain ⟨ga, gc, rfl⟩ : ∃ a c, gv = .slice a n0 c := by obtain ⟨a, c, h, _⟩ := hr0; exact ⟨a, c, h⟩
  obtain ⟨qa, qc, rfl⟩ : ∃ a c, qv = .slice a m c := by obtain ⟨a, c, h, _⟩ := hq; exact ⟨a, c, h⟩
  have Hn0 := Lib.hid hn0; clear hn0
  have Hm := Lib.hid hm; clear hm
  obtain ⟨n, hn⟩ : ∃ n, n = min n0 60 := ⟨_, rfl⟩
  have hr := hr0.take (k := n) (by omega)
  rw [Nat.mul_one, show (ints gs0).take n = ints (gs0.take n) by simp [ints]] at hr
  have hgl : (gs0.take n).length = n := by rw [List.length_take]; have := Hn0.out; omega
  generalize gs0.take n = gs at hr hgl
  have hcap : n0 ≤ gc ∧ gc ≤ maxLen := by obtain ⟨a, c, e, h1, h2, h3, _⟩ := hr0; simp at e; obtain ⟨_, rfl⟩ := e; exact ⟨h2, h3⟩
  obtain ⟨hcap, hcm⟩ := hcap
  unfold maxLen at hcm
  have Hgl := Lib.hid hgl
  have Hn := Lib.hid hn
  have hn60 : n ≤ 60 := by omega
  clear hr0 hgl hn Hn0
  go_enter Try.func7, Try.ntmps7
  go_wp2_with fail
  refine (awake_any _).mono ?_
  rintro e w0 ⟨rfl, B0⟩
  go_upto_region 2 with (fail)
  go_cut [0] (fun v wx => v = .slice ga n gc ∧ wx = w0)
  case first =>
    go_wp2
    all_goals (go_meet; exact ⟨by congr 1; have := Hn.out; omega, rfl⟩)
  case rest =>
    obtain ⟨rfl, rfl⟩ := hcut
    have hrN := hr.new B0
    have hqN := hq.new B0
    go_wp2_with fail
    refine (rest_any _ _ n m gs qs Hgl.out Hm.out need _ hrN hqN (by omega)).mono ?_
    rintro e w1 ⟨v1, rfl, o1, b1⟩
    obtain ⟨ra, rc, rfl, hrc1, hrc2⟩ : ∃ a c, v1 = .slice a n c ∧ n ≤ c ∧ c ≤ maxLen := by obtain ⟨a, c, e, _, h2, h3, _⟩ := Rd.of_own o1; exact ⟨a, c, e, h2, h3⟩
    have hrr := Rd.of_own o1
    have hg1 := hrN.new b1
    have hq1 := hqN.new b1
    have B1 := B0.trans (b1.mono B0.size)
    have hnn : ((n : Int) != (n : Int)) = false := by simp
    clear o1 b1 hrN hqN B0
    go_wp2_with fail
    have hrl : (restN gs qs need).length = n := by simp [restN, Hgl.out]
    have Hrl := Lib.hid hrl
    clear hrl
    go_loopw [9] (fun i wr => ∃ k : Nat, k ≤ n ∧ i = .int .i64 k ∧ Below w1.heap.size w1 wr) (fun i _ => n - (intOf i).toNat)
    case atStart => exact ⟨0, Nat.zero_le _, rfl, Below.refl _ _⟩
    case round =>
      obtain ⟨k, hk, rfl, hB⟩ := hrel
      by_cases hlt : k < n
      · obtain ⟨gb, go, rfl⟩ := hg1.addr (by omega)
        obtain ⟨rb, ro, rfl⟩ := hrr.addr (by omega)
        have hgR := hg1.new hB
        have hrR := hrr.new hB
        have hqR := hq1.new hB
        have cg := hgR.int Hgl.out hlt
        obtain ⟨g, hg⟩ : ∃ g, g = gs[k]?.getD 0 := ⟨_, rfl⟩
        rw [← hg] at cg
        have Hg := Lib.hid hg
        clear hg
        go_wp2_with fail
        refine (members_any _ n gs Hgl.out g _ hgR (by omega)).mono ?_
        rintro e w2 ⟨mv, rfl, hM, hB2⟩
        obtain ⟨ma, mc, rfl, hmc1, hmc2⟩ := hM.1.shape
        have hMr := hM.1
        have hgM := hgR.new hB2
        have hrM := hrR.new hB2
        have hqM := hqR.new hB2
        have hlM : (memTo gs g n).length ≤ n := memTo_le gs g n
        obtain ⟨M, hMM⟩ : ∃ M, M = memTo gs g n := ⟨_, rfl⟩
        rw [← hMM] at hMr hlM hmc1 ⊢
        have HM := Lib.hid hMM
        obtain ⟨mn, hmn⟩ : ∃ mn, mn = M.length := ⟨_, rfl⟩
        rw [← hmn] at hMr hlM hmc1 ⊢
        have Hmn := Lib.hid hmn
        have B2 := hB.trans (hB2.mono hB.size)
        clear hM hMM hmn hgR hrR hqR hB2 hB
        go_wp2_with fail
        go_loopw [11, 12, 13, 14] (fun lo ow i _ wr => ∃ (j jd : Nat), j ≤ mn ∧ i = .int .i64 j ∧ lo = .bool (loudTo qs need M j) ∧ ow = .bool (ownTo M k j) ∧ wr = w2.drewN jd) (fun _ _ i _ _ => mn - (intOf i).toNat)
        case atStart => exact ⟨0, 0, Nat.zero_le _, rfl, rfl, rfl, rfl⟩
        case round =>
          obtain ⟨j, jd, hj, rfl, rfl, rfl, rfl⟩ := hrel
          by_cases hjl : j < mn
          · obtain ⟨mb, mo, rfl⟩ := hMr.addr (by omega)
            have hjM : j < (memTo gs g n).length := by rw [← HM.out, ← Hmn.out]; exact hjl
            obtain ⟨x, hx1, hx2, hx3⟩ := memTo_at hjM
            rw [← HM.out] at hx1
            have cm := hMr.int Hmn.out.symm hjl
            rw [hx1, Option.getD_some] at cm
            have cx := hgM.int Hgl.out hx2
            rw [hx3] at cx
            have ck := hgM.int Hgl.out hlt
            rw [← Hg.out] at ck
            have hL1 := Lib.hid (loudTo_succ (qs := qs) (need := need) hx1)
            have hO1 := Lib.hid (ownTo_succ (i := k) hx1)
            have hx0 : (0 : Int) ≤ (x : Int) := by omega
            have z1 : decide ((x : Int) < 0) = false := decide_eq_false (by omega)
            have z2 : decide (n ≤ x) = false := decide_eq_false (by omega)
            have hrise : ∀ y : Nat, M[j - 1]? = some (y : Int) → 0 < j → y < x := by
              intro y hy h0
              rw [HM.out] at hy hx1
              exact memTo_rise hy (by rw [show j - 1 + 1 = j from by omega]; exact hx1)
            have hprev : 0 < j → ∃ y : Nat, w2.cell? ⟨mb, mo + (j - 1), none⟩ = some (.int .i64 y) ∧ y < x := by
              intro h0
              obtain ⟨y, hy, _, _⟩ := memTo_at (gs := gs) (o := g) (n := n) (j := j - 1) (by omega)
              rw [← HM.out] at hy
              have cy := hMr.int Hmn.out.symm (i := j - 1) (by omega)
              rw [hy, Option.getD_some] at cy
              exact ⟨y, cy, hrise y hy h0⟩
            have hqv : (x < m ∧ ∃ qb qo, qa = some ⟨qb, qo, none⟩ ∧ w2.cell? ⟨qb, qo + x, none⟩ = some (.int .i64 (qs[x]?.getD 0))) ∨ (m ≤ x ∧ qs[x]?.getD 0 = 0) := by
              rcases Nat.lt_or_ge x m with h | h
              · obtain ⟨qb, qo, rfl⟩ := hqM.addr (by omega)
                exact .inl ⟨h, qb, qo, rfl, hqM.int Hm.out h⟩
              · exact .inr ⟨h, by rw [List.getElem?_eq_none (by have := Hm.out; omega)]; rfl⟩
            obtain ⟨q, hq⟩ : ∃ q, q = qs[x]?.getD 0 := ⟨_, rfl⟩
            rw [← hq] at hqv hL1
            clear hx1 hx3 hrise hjM hq
            obtain ⟨L, hL⟩ : ∃ L, L = loudTo qs need M j := ⟨_, rfl⟩
            obtain ⟨O, hO⟩ : ∃ O, O = ownTo M k j := ⟨_, rfl⟩
            rw [← hL] at hL1 ⊢
            rw [← hO] at hO1 ⊢
            clear hL hO
            have hjz : j = 0 ∨ ∃ j', j = j' + 1 := by cases j with | zero => exact .inl rfl | succ j' => exact .inr ⟨j', rfl⟩
            rcases hjz with rfl | ⟨j', rfl⟩
            · clear hprev
              simp only [Nat.add_zero] at cm
              simp only [Int.natCast_zero]
              rcases hqv with ⟨hxm, qb, qo, rfl, cq⟩ | ⟨hxm, rfl⟩
              all_goals
                go_wp2_with fail
                go_quiet (fail)
                cases L
                all_goals cases O
                all_goals
                  go_wp2
                  go_roundw
                  case rel => exact ⟨0 + 1, _, by omega, rfl, by rw [hL1.out]; rfl, by rw [hO1.out]; rfl, rfl⟩
                  case measure => simp [intOf]; omega
            · obtain ⟨y, cy, hyx⟩ := hprev (by omega)
              simp only [Nat.add_sub_cancel] at cy
              have z3 : decide ((x : Int) ≤ (y : Int)) = false := decide_eq_false (by omega)
              have z4 : decide (x ≤ y) = false := decide_eq_false (by omega)
              rcases hqv with ⟨hxm, qb, qo, rfl, cq⟩ | ⟨hxm, rfl⟩
              all_goals
                go_wp2_with fail
                go_quiet (fail)
                cases L
                all_goals cases O
                all_goals
                  go_wp2
                  go_roundw
                  case rel => exact ⟨j' + 1 + 1, _, by omega, by go_num, by rw [hL1.out]; rfl, by rw [hO1.out]; rfl, rfl⟩
                  case measure => simp [intOf]; omega
          · obtain rfl : mn = j := by omega
            have cr := hrM.bool Hrl.out hlt
            have hkg : k < gs.length := by have := Hgl.out; omega
            have hget : (restN gs qs need)[k]?.getD false = !loudB gs qs need n g := by
              rw [Hg.out]; simp [restN, List.getElem?_eq_getElem hkg, Hgl.out]
            have hLL : loudTo qs need M mn = loudB gs qs need n g := by rw [Hmn.out, HM.out]; exact loudTo_all gs qs need n g
            have hOO : ownTo M k mn = true := by rw [Hmn.out, HM.out]; exact ownTo_all hlt Hg.out.symm
            rw [hget] at cr
            rw [hLL, hOO]
            generalize loudB gs qs need n g = X at cr
            clear hget hLL hOO
            have B3 := Below.drewN' B2 jd
            cases X
            all_goals
              go_wp2
              go_roundw
              case rel => exact ⟨k + 1, by omega, by go_num, B3⟩
              case measure => simp [intOf]; omega
      · go_wp2
        go_ret
        exact ⟨rfl, B1.trans (hB.mono B1.size)⟩
end Go.Proofs.Ytafljpfephomoaa
