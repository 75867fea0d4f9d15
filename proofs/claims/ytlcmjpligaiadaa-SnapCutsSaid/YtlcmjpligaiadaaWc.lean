/- law04's same, awake; Of; pick. -/
import Derived.Test.YtlcmjpligaiadaaWb
import Derived.Test.YtlcmjpligaiadaaW7
namespace Go.Proofs.Ytlcmjpligaiadaa
open Go.RowKit
set_option maxRecDepth 100000 in
set_option maxHeartbeats 4000000 in
theorem same4_any (av bv : Value) (n : Nat) (l : List Pr) (hl : l.length = n) (w : World) (ha : Rd w av n 2 (pairCells l)) (hb : Rd w bv n 2 (pairCells l)) :
    Calls Try.prog 27 #[av, bv] w fun e w' => e = .returned (.bool true) ∧ ∃ j, w' = w.drewN j := by
  obtain ⟨aa, ac, rfl, a1, a2⟩ := ha.shape
  obtain ⟨ba, bc, rfl, b1, b2⟩ := hb.shape
  have Hl := Lib.hid hl
  clear hl
  have hnn : ((n : Int) != (n : Int)) = false := by simp
  go_enter Try.func27, Try.ntmps27
  go_wp2
  go_loopw [5] (fun i wr => ∃ k : Nat, k ≤ n ∧ i = .int .i64 k ∧ ∃ d, wr = w.drewN d) (fun i _ => n - (intOf i).toNat)
  case atStart => exact ⟨0, Nat.zero_le _, rfl, 0, rfl⟩
  case round =>
    obtain ⟨k, hk, rfl, d, rfl⟩ := hrel
    by_cases hlt : k < n
    · obtain ⟨p, hp⟩ : ∃ p, l[k]? = some p := ⟨_, List.getElem?_eq_getElem (by rw [Hl.out]; exact hlt)⟩
      obtain ⟨ab, ao, rfl⟩ := ha.addr (by omega)
      obtain ⟨bb, bo, rfl⟩ := hb.addr (by omega)
      obtain ⟨f0, f1⟩ := ha.pair Hl.out hlt hp
      obtain ⟨g0, g1⟩ := hb.pair Hl.out hlt hp
      obtain ⟨p1, p2⟩ := p
      simp only at f0 f1 g0 g1
      have hkI : (k : Int) < (n : Int) := by omega
      have hne : ∀ w, (binOp .neq 42 (.agg #[.int .i64 p1, .int .i64 p2]) (.agg #[.int .i64 p1, .int .i64 p2])).run Try.prog w = .ok (.bool false) w := fun w => by
        rw [nePair]; simp
      have hgd := guard42
      clear hp
      go_wp2
      go_quiet (fail)
      go_wp2
      go_roundw
      case rel => exact ⟨k + 1, by omega, by go_num, _, rfl⟩
      case measure => simp [intOf]; omega
    · obtain rfl : n = k := by omega
      go_wp2
      go_ret
      exact ⟨rfl, d, rfl⟩
theorem of_any (a b : Int) (w : World) :
    Calls Try.prog 37 #[.int .i64 a, .int .i64 b] w fun e w' => e = .returned (.agg #[.int .i64 (min a b), .int .i64 (max a b)]) ∧ Below w.heap.size w w' := by
  have B1 : Below w.heap.size w ((w.alloc (.cells #[.int .i64 0, .int .i64 0] 42))) := (Below.refl _ w).alloc (Nat.le_refl _) _
  rcases (show a < b ∨ a = b ∨ b < a by omega) with h | rfl | h
  · have h1 := Lib.hid (show min a b = a by omega)
    have h2 := Lib.hid (show max a b = b by omega)
    have h3 : ¬ b < a := by omega
    go_enter Try.func37, Try.ntmps37
    go_wp2
    refine bodyPost_ret (v := .agg #[.int .i64 a, .int .i64 b]) (by simp [results, Try.f37, go_sem]) rfl ⟨by rw [h1.out, h2.out], ?_⟩
    first | exact (Below.refl _ w).alloc (Nat.le_refl _) _ | exact ((B1.setCell (by simp) _).setCell (by simp) _)
  · have h1 := Lib.hid (show min a a = a by omega)
    have h2 := Lib.hid (show max a a = a by omega)
    go_enter Try.func37, Try.ntmps37
    go_wp2
    refine bodyPost_ret (v := .agg #[.int .i64 a, .int .i64 a]) (by simp [results, Try.f37, go_sem]) rfl ⟨by rw [h1.out, h2.out], ?_⟩
    first | exact (Below.refl _ w).alloc (Nat.le_refl _) _ | exact ((B1.setCell (by simp) _).setCell (by simp) _)
  · have h1 := Lib.hid (show min a b = b by omega)
    have h2 := Lib.hid (show max a b = a by omega)
    have h3 : ¬ a < b := by omega
    go_enter Try.func37, Try.ntmps37
    go_wp2
    refine bodyPost_ret (v := .agg #[.int .i64 b, .int .i64 a]) (by simp [results, Try.f37, go_sem]) rfl ⟨by rw [h1.out, h2.out], ?_⟩
    first | exact (Below.refl _ w).alloc (Nat.le_refl _) _ | exact ((B1.setCell (by simp) _).setCell (by simp) _)
set_option maxRecDepth 100000 in
set_option maxHeartbeats 4000000 in
theorem awake4_any (w : World) : Calls Try.prog 19 #[] w fun e w' => e = .returned (.bool true) ∧ Below w.heap.size w w' := by
  go_enter Try.func19, Try.ntmps19
  go_wp2_with fail
  refine (pnew_ok 3 3 rfl w.heap.size w (by decide) (by decide)).mono ?_
  rintro e w1 ⟨rfl, S1, B1⟩
  have hs1 := B1.size
  go_wp2_with fail
  refine (of_any 5 2 w1).mono ?_
  rintro e w2 ⟨rfl, B2⟩
  have S2 := S1.new B2
  have B12 := B1.trans (B2.mono hs1)
  go_wp2_with fail
  have F2 : ∀ j, Foot w.heap.size (.slice none 0 0) j → w.heap.size ≤ j := fun j h => by
    rcases h with rfl | h
    · exact Nat.le_refl _
    · simp [Value.ownBlock] at h
  have M2 : Mod (fun j => w.heap.size ≤ j) w w2 := below_mod B12
  refine (put_any w.heap.size w.heap.size 3 _ [] (2, 5) _ (by have := M2.size; omega) S2).mono ?_
  rintro e w3 ⟨he, v3, S3, m3, q3⟩
  rw [show canPut 3 [] (2, 5) = true from by decide, show putE 3 [] (2, 5) = 0 from by decide] at he
  rw [show putS 3 [] (2, 5) = [(2, 5)] from by decide] at S3
  subst he
  have M3 := M2.trans (m3.mono (fun j hj h => F2 j h))
  have F3 : ∀ j, Foot w.heap.size v3 j → w.heap.size ≤ j := fun j h => (q3 j h).elim (F2 j) (fun h => by have := M2.size; omega)
  go_wp2_with fail
  refine (put_any w.heap.size w.heap.size 3 _ [(2, 5)] (2, 5) _ (by have := M3.size; omega) S3).mono ?_
  rintro e w4 ⟨he, v4, S4, m4, q4⟩
  rw [show canPut 3 [(2, 5)] (2, 5) = false from by decide, show putE 3 [(2, 5)] (2, 5) = 0 from by decide] at he
  rw [show putS 3 [(2, 5)] (2, 5) = [(2, 5)] from by decide] at S4
  subst he
  have M4 := M3.trans (m4.mono (fun j hj h => F3 j h))
  have F4 : ∀ j, Foot w.heap.size v4 j → w.heap.size ≤ j := fun j h => (q4 j h).elim (F3 j) (fun h => by have := M3.size; omega)
  go_wp2_with fail
  refine (put_any w.heap.size w.heap.size 3 _ [(2, 5)] (5, 2) _ (by have := M4.size; omega) S4).mono ?_
  rintro e w5 ⟨he, v5, S5, m5, q5⟩
  rw [show canPut 3 [(2, 5)] (5, 2) = false from by decide, show putE 3 [(2, 5)] (5, 2) = 1 from by decide] at he
  rw [show putS 3 [(2, 5)] (5, 2) = [(2, 5)] from by decide] at S5
  subst he
  have M5 := M4.trans (m5.mono (fun j hj h => F4 j h))
  have F5 : ∀ j, Foot w.heap.size v5 j → w.heap.size ≤ j := fun j h => (q5 j h).elim (F4 j) (fun h => by have := M4.size; omega)
  go_wp2_with fail
  refine (put_any w.heap.size w.heap.size 3 _ [(2, 5)] (1, 9) _ (by have := M5.size; omega) S5).mono ?_
  rintro e w6 ⟨he, v6, S6, m6, q6⟩
  rw [show canPut 3 [(2, 5)] (1, 9) = true from by decide, show putE 3 [(2, 5)] (1, 9) = 0 from by decide] at he
  rw [show putS 3 [(2, 5)] (1, 9) = [(1, 9), (2, 5)] from by decide] at S6
  subst he
  have M6 := M5.trans (m6.mono (fun j hj h => F5 j h))
  have F6 : ∀ j, Foot w.heap.size v6 j → w.heap.size ≤ j := fun j h => (q6 j h).elim (F5 j) (fun h => by have := M5.size; omega)
  go_wp2_with fail
  refine (allof_any w.heap.size w.heap.size 3 v6 [(1, 9), (2, 5)] _ S6).mono ?_
  rintro e w7 ⟨ov, rfl, o7, B7⟩
  have S7 := S6.new B7
  go_wp2_with fail
  refine (same4_any _ _ 2 [(1, 9), (2, 5)] rfl _ ((Rd.of_own o7).new ((Below.refl _ w7).alloc (Nat.le_refl _) _)) (blk_rd (by exact Blk.new w7 42 [_, _, _, _]) rfl (by decide))).mono ?_
  rintro e w8 ⟨rfl, j8, rfl⟩
  have B8 : Below w7.heap.size w7 ((w7.alloc (.cells #[.int .i64 1, .int .i64 9, .int .i64 2, .int .i64 5] 42)).drewN j8) := Below.drewN' ((Below.refl _ w7).alloc (Nat.le_refl _) _) j8
  have S8 := S7.new B8
  go_wp2_with fail
  refine (without_any w.heap.size w.heap.size 3 v6 [(1, 9), (2, 5)] 9 _ S8).mono ?_
  rintro e w9 ⟨he, v9, S9, m9, q9⟩
  rw [show woP [(1, 9), (2, 5)] 9 = [(2, 5)] from by decide] at he
  have he' : e = .returned (.int .i64 1) := he
  subst he'
  go_wp2
  go_ret
  refine ⟨rfl, ?_⟩
  have hb7 := B7.size
  have M8 : Mod (fun j => w.heap.size ≤ j) w _ := (M6.trans (below_mod B7)).trans (below_mod B8)
  exact (M8.trans (m9.mono (fun j hj h => F6 j h))).below (Nat.le_refl _) (fun j h1 h2 => by omega)
end Go.Proofs.Ytlcmjpligaiadaa
