/- law03's awake and pick. -/
import Derived.Test.YtafljpfephomoaaU5
import Derived.Test.YtafljpfephomoaaU2
import Derived.Test.YtafljpfephomoaaA1
namespace Go.Proofs.Ytafljpfephomoaa
open Go.RowKit
variable {cp : Nat} {ex : List Value}
theorem pick3_any (c n : Int) (w : World) (hc : -9223372036854775808 ≤ c) (hc2 : c ≤ 9223372036854775807) (hn : 1 ≤ n) (hn2 : n ≤ 65536) :
    Calls Try.prog 15 #[.int .i64 c, .int .i64 n] w fun e w' => e = .returned (.int .i64 (pickN c n)) ∧ w = w' := by
  by_cases h : c < 0
  · go_enter Try.func15, Try.ntmps15
    go_wp2
    go_ret
    exact ⟨ret_int (by simp [pickN, h]), rfl⟩
  · go_enter Try.func15, Try.ntmps15
    go_wp2
    go_ret
    exact ⟨ret_int (by have : ¬ c < 0 := by omega
                       simp [pickN, this, Int.tmod_eq_emod_of_nonneg h]), rfl⟩
theorem put_yes (x : Int) (p sb n k : Nat) (sl : List Slot) (many : Int) (w : World) (hp : PoolAt w p sb n cp ex sl many) (s : Slot) (hs : sl[k]? = some s) (hk : putN sl n = some k) (v : Int) (hv : s.age * 65536 + k + 1 = v) :
    Calls Try.prog 17 #[.pointer (some ⟨p, 0, none⟩), .int .i64 x] w fun e w' => e = .returned (.tuple #[.int .i64 v, .int .i64 0]) ∧ PoolAt w' p sb n cp ex (sl.set k ⟨s.age, true, x⟩) (many + 1) ∧ Mod (Pl p sb) w w' := by
  refine (put_any x p sb n sl many w hp).mono ?_
  rintro e w' ⟨hm, ⟨h, _⟩ | ⟨k', s', hk', hs', rfl, hP⟩⟩
  · rw [hk] at h; cases h
  · rw [hk] at hk'
    obtain rfl := Option.some.inj hk'
    rw [hs] at hs'
    obtain rfl := Option.some.inj hs'
    exact ⟨by rw [hv], hP, hm⟩
theorem put_no (x : Int) (p sb n : Nat) (sl : List Slot) (many : Int) (w : World) (hp : PoolAt w p sb n cp ex sl many) (hk : putN sl n = none) :
    Calls Try.prog 17 #[.pointer (some ⟨p, 0, none⟩), .int .i64 x] w fun e w' => e = .returned (.tuple #[.int .i64 0, .int .i64 30]) ∧ PoolAt w' p sb n cp ex sl many ∧ Mod (Pl p sb) w w' := by
  refine (put_any x p sb n sl many w hp).mono ?_
  rintro e w' ⟨hm, ⟨_, rfl, hP⟩ | ⟨k', s', hk', _⟩⟩
  · exact ⟨rfl, hP, hm⟩
  · rw [hk] at hk'; cases hk'
set_option maxRecDepth 100000 in
set_option maxHeartbeats 4000000 in
theorem awake3_any (w : World) :
    Calls Try.prog 14 #[] w fun e w' => e = .returned (.bool true) ∧ Below w.heap.size w w' := by
  go_enter Try.func14, Try.ntmps14
  go_wp2_with fail
  refine (new_ok 2 2 rfl w (by decide) (by decide)).mono ?_
  rintro e w1 ⟨p, sb, rfl, hp1, hB1, hl1, hl2⟩
  go_wp2_with fail
  refine (new_bad 0 w1 (by decide)).mono ?_
  rintro e w1' ⟨rfl, rfl⟩
  go_wp2_with fail
  refine (put_yes 5 p sb 2 0 _ _ _ hp1 noSlot rfl (by decide) 1 (by decide)).mono ?_
  rintro e w2 ⟨rfl, hp2, hm2⟩
  go_wp2_with fail
  refine (put_yes 6 p sb 2 1 _ _ _ hp2 noSlot rfl (by decide) 2 (by decide)).mono ?_
  rintro e w3 ⟨rfl, hp3, hm3⟩
  go_wp2_with fail
  refine (put_no 7 p sb 2 _ _ _ hp3 (by decide)).mono ?_
  rintro e w4 ⟨rfl, hp4, hm4⟩
  go_wp2_with fail
  refine (drop_some 1 p sb 2 0 _ _ _ hp4 (by unfold In64; decide) ⟨0, true, 5⟩ (by decide) rfl).mono ?_
  rintro e w5 ⟨rfl, hp5, hm5⟩
  go_wp2_with fail
  refine (put_yes 8 p sb 2 0 _ _ _ hp5 ⟨1, false, 0⟩ rfl (by decide) 65537 (by decide)).mono ?_
  rintro e w6 ⟨rfl, hp6, hm6⟩
  go_wp2_with fail
  refine (get_any 65537 p sb 2 _ _ _ hp6 (by unfold In64; decide)).mono ?_
  rintro e w6' ⟨rfl, rfl⟩
  simp only [show getN ((((List.replicate 2 noSlot).set 0 ⟨noSlot.age, true, 5⟩ |>.set 1 ⟨noSlot.age, true, 6⟩).set 0 ⟨(⟨0, true, 5⟩ : Slot).age + 1, false, 0⟩).set 0 ⟨(⟨1, false, 0⟩ : Slot).age, true, 8⟩) 65537 = (8, true) from by decide]
  go_wp2_with fail
  refine (len_any p sb 2 _ _ _ hp6).mono ?_
  rintro e w6' ⟨rfl, rfl⟩
  go_wp2
  go_ret
  refine ⟨rfl, ?_⟩
  have hB := hB1.trans (((((hm2.trans hm3).trans hm4).trans hm5).trans hm6).below (B := w.heap.size) hB1.size (fun k h e => by rcases e with rfl | rfl <;> omega))
  exact hB
end Go.Proofs.Ytafljpfephomoaa
