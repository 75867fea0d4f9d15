/- Snap: Numbers of the statements, pick, Clip. -/
import Derived.Test.YtlcmjpligaiadaaSe
namespace Go.Proofs.Ytlcmjpligaiadaa
open Go.RowKit
def NumP (l m : List Int) (w : World) (e : Ending) (w' : World) : Prop := e = .returned (.bool (decide (l = m))) ∧ ∃ j, w' = w.drewN j
theorem drewN_drewN (w : World) (i j : Nat) : (w.drewN i).drewN j = w.drewN (i + j) := by unfold World.drewN; simp [Nat.add_assoc]
set_option maxRecDepth 100000 in
set_option maxHeartbeats 4000000 in
theorem numbers_any (av bv : Value) (n1 n2 : Nat) (l m : List Int) (hl : l.length = n1) (hm : m.length = n2) (w : World) (ha : Rd w av n1 1 (ints l)) (hb : Rd w bv n2 1 (ints m)) :
    Calls Try.prog 16 #[av, bv] w (NumP l m w) := by
  obtain ⟨aa, ac, rfl, _, _⟩ := ha.shape
  obtain ⟨ba, bc, rfl, _, _⟩ := hb.shape
  have Hl := Lib.hid hl
  have Hm := Lib.hid hm
  clear hl hm
  by_cases hne : n1 = n2
  · subst hne
    have hnn : ((n1 : Int) != (n1 : Int)) = false := by simp
    go_enter Try.func16, Try.ntmps16
    go_wp2
    go_loopw [5] (fun i wr => ∃ (k j : Nat), k ≤ n1 ∧ i = .int .i64 k ∧ l.take k = m.take k ∧ wr = w.drewN j) (fun i _ => n1 - (intOf i).toNat)
    case atStart => exact ⟨0, 0, Nat.zero_le _, rfl, by simp, rfl⟩
    case round =>
      obtain ⟨k, j, hk, rfl, ht, rfl⟩ := hrel
      by_cases hlt : k < n1
      · have hkI : (k : Int) < (n1 : Int) := by omega
        obtain ⟨x, hx⟩ : ∃ x, l[k]? = some x := ⟨_, List.getElem?_eq_getElem (by rw [Hl.out]; exact hlt)⟩
        obtain ⟨y, hy⟩ : ∃ y, m[k]? = some y := ⟨_, List.getElem?_eq_getElem (by rw [Hm.out]; exact hlt)⟩
        obtain ⟨ab, ao, rfl⟩ := ha.addr (by omega)
        obtain ⟨bb, bo, rfl⟩ := hb.addr (by omega)
        have f0 := ha.int Hl.out hlt
        have f1 := hb.int Hm.out hlt
        rw [hx] at f0
        rw [hy] at f1
        simp only [Option.getD_some] at f0 f1
        have Hx := Lib.hid hx
        have Hy := Lib.hid hy
        have Ht := Lib.hid ht
        clear hx hy ht
        by_cases hxy : x = y
        · subst hxy
          have hxx : ((x : Int) != x) = false := by simp
          go_wp2
          go_quiet (fail)
          go_wp2
          go_roundw
          case rel => exact ⟨k + 1, j + nq, by omega, by go_num, by rw [List.take_add_one, List.take_add_one, Ht.out, Hx.out, Hy.out], rfl⟩
          case measure => simp [intOf]; omega
        · have hxx : ((x : Int) != y) = true := by simpa using hxy
          have hlm : l ≠ m := by
            rintro rfl
            have h1 := Hx.out
            rw [Hy.out] at h1
            exact hxy (Option.some.inj h1).symm
          have Hlm := Lib.hid hlm
          clear hlm hxy
          go_wp2
          go_quiet (fail)
          go_wp2
          go_ret
          exact ⟨by rw [decide_eq_false Hlm.out]; rfl, _, drewN_drewN w j _⟩
      · obtain rfl : k = n1 := by omega
        have hkI : ¬ (k : Int) < (k : Int) := by omega
        have hlm : l = m := by
          rw [List.take_of_length_le (by rw [Hl.out]; exact Nat.le_refl _), List.take_of_length_le (by rw [Hm.out]; exact Nat.le_refl _)] at ht
          exact ht
        have Hlm := Lib.hid hlm
        clear ht hlm
        go_wp2
        go_ret
        exact ⟨by rw [decide_eq_true Hlm.out]; rfl, _, rfl⟩
  · have hnn : ((n1 : Int) != (n2 : Int)) = true := by simp; omega
    have Hlm : Hid (l ≠ m) := Lib.hid (by rintro rfl; exact hne (Hl.out.symm.trans Hm.out))
    clear hne
    go_enter Try.func16, Try.ntmps16
    go_wp2
    go_ret
    exact ⟨by rw [decide_eq_false Hlm.out]; rfl, 0, rfl⟩
set_option maxRecDepth 100000 in
theorem pick18_any (c : Int) (n : Nat) (hn : 0 < n) (hc : -9223372036854775808 ≤ c ∧ c ≤ 9223372036854775807) (w : World) (hn2 : n ≤ 9223372036854775807) :
    Calls Try.prog 18 #[.int .i64 c, .int .i64 (n : Int)] w fun e w' => ∃ k : Nat, e = .returned (.int .i64 k) ∧ k < n ∧ w = w' := by
  have hnI : ¬ ((n : Int) = 0) := by omega
  have hnI2 : (0 : Int) < (n : Int) := by omega
  rcases hc with ⟨hc1, hc2⟩
  by_cases h0 : c < 0
  · go_enter Try.func18, Try.ntmps18
    go_wp2
    go_ret
    have h1 : 0 ≤ -(c + 1) := by omega
    exact ⟨(-(c + 1)).toNat % n, ret_int (by rw [← Int.neg_tmod, Int.tmod_eq_emod_of_nonneg h1, Int.natCast_emod, Int.toNat_of_nonneg h1]), Nat.mod_lt _ hn, rfl⟩
  · go_enter Try.func18, Try.ntmps18
    go_wp2
    go_ret
    have h1 : 0 ≤ c := by omega
    exact ⟨c.toNat % n, ret_int (by rw [Int.natCast_emod, Int.toNat_of_nonneg h1]), Nat.mod_lt _ hn, rfl⟩
set_option maxRecDepth 100000 in
theorem clip59_any (ao : Option Addr) (n cap : Nat) (w : World) (h : n ≤ cap) (_h2 : cap ≤ 9223372036854775807) :
    Calls Try.prog 59 #[.slice ao n cap] w fun e w' => e = .returned (.slice ao n n) ∧ w = w' := by
  have h3 : (n : Int) ≤ (cap : Int) := by omega
  go_enter Try.func59, Try.ntmps59
  go_wp2
  go_ret
  exact ⟨rfl, rfl⟩
end Go.Proofs.Ytlcmjpligaiadaa
