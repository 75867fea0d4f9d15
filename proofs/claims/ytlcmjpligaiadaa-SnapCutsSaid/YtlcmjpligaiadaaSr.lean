/- SnapCuts: what is cut off, or longer, is refused; other numbers have other bytes. -/
import Derived.Test.YtlcmjpligaiadaaSq
import Derived.Laws.Cover1
namespace Go.Proofs.Ytlcmjpligaiadaa
open Go.RowKit
theorem midN_inj : ∀ (l m : List Int), (∀ x ∈ l, -9223372036854775808 ≤ x ∧ x < 9223372036854775808) → (∀ x ∈ m, -9223372036854775808 ≤ x ∧ x < 9223372036854775808) → l.length = m.length → midN l = midN m → l = m
  | [], [], _, _, _, _ => rfl
  | [], _ :: _, _, _, h, _ => by cases h
  | _ :: _, [], _, _, h, _ => by cases h
  | x :: l, y :: m, hl, hm, hn, h => by
    have h1 : be (word x) 8 ++ midN l = be (word y) 8 ++ midN m := h
    have h2 := List.append_inj h1 (by rw [be_len, be_len])
    have h3 : word x = word y := by
      have := congrArg getN h2.1
      rw [getN_be (by have := word_lt x; omega) (word_lt _), getN_be (by have := word_lt y; omega) (word_lt _)] at this
      exact this
    have h4 : x = y := by
      have hx := word_back x (hl x (List.mem_cons_self ..))
      have hy := word_back y (hm y (List.mem_cons_self ..))
      rw [← hx, ← hy, h3]
    rw [h4, midN_inj l m (fun z hz => hl z (List.mem_cons_of_mem _ hz)) (fun z hz => hm z (List.mem_cons_of_mem _ hz)) (by simpa using hn) h2.2]
theorem layNs_inj (l m : List Int) (hl : ∀ x ∈ l, -9223372036854775808 ≤ x ∧ x < 9223372036854775808) (hm : ∀ x ∈ m, -9223372036854775808 ≤ x ∧ x < 9223372036854775808) (h : layNs l = layNs m) : l = m := by
  have hn : l.length = m.length := by
    have := congrArg List.length h
    rw [layNs_len, layNs_len] at this
    omega
  unfold layNs at h
  have h2 := (List.append_inj h (by rw [bodyN_len, bodyN_len, hn])).1
  unfold bodyN at h2
  exact midN_inj l m hl hm hn (List.append_inj h2 (by rw [headN_len, headN_len])).2
theorem lay_eq (l m : List Int) (hl : ∀ x ∈ l, -9223372036854775808 ≤ x ∧ x < 9223372036854775808) (hm : ∀ x ∈ m, -9223372036854775808 ≤ x ∧ x < 9223372036854775808) : (strN (layNs m) = strN (layNs l)) ↔ l = m := by
  constructor
  · intro h
    have h2 := congrArg nats h
    rw [nats_lay, nats_lay] at h2
    exact (layNs_inj m l hm hl h2).symm
  · rintro rfl
    rfl
theorem ba_loop (b : ByteArray) : ∀ (n i : Nat) (r : List UInt8), b.size - i = n → ByteArray.toList.loop b i r = r.reverse ++ b.data.toList.drop i := by
  intro n
  induction n with
  | zero =>
    intro i r h
    unfold ByteArray.toList.loop
    have h1 : ¬ i < b.size := by omega
    have h2 : b.size = b.data.toList.length := by simp
    rw [if_neg h1, List.drop_eq_nil_of_le (by omega), List.append_nil]
  | succ n ih =>
    intro i r h
    unfold ByteArray.toList.loop
    have hi : i < b.size := by omega
    rw [if_pos hi, ih (i + 1) _ (by omega)]
    have hl : i < b.data.toList.length := by simpa using hi
    rw [List.drop_eq_getElem_cons hl]
    simp [ByteArray.get!]
    rw [getElem!_pos _ _ (by simpa using hi)]
theorem ba_toList (b : ByteArray) : b.toList = b.data.toList := by
  unfold ByteArray.toList
  rw [ba_loop b _ 0 [] rfl]
  simp
theorem same_bool (s s2 : ByteArray) (L L2 : List Int) (h : s2 = s ↔ L = L2) : ((s2.toList == s.toList) == decide (L = L2)) = true := by
  by_cases hL : L = L2
  · rw [decide_eq_true hL, h.2 hL]; simp
  · have hs : s2.toList ≠ s.toList := by
      intro e
      rw [ba_toList, ba_toList] at e
      exact hL (h.1 (ByteArray.ext (Array.toList_inj.1 e)))
    rw [decide_eq_false hL]
    simpa using hs
set_option maxRecDepth 100000 in
set_option maxHeartbeats 2000000 in
theorem cuts_any (v u : Value) (n m : Nat) (c : Int) (more : ByteArray) (l l2 : List Int) (hl : l.length = n) (hl2 : l2.length = m) (hx : ∀ x ∈ l, -9223372036854775808 ≤ x ∧ x < 9223372036854775808) (hx2 : ∀ x ∈ l2, -9223372036854775808 ≤ x ∧ x < 9223372036854775808)
    (hc : -9223372036854775808 ≤ c ∧ c ≤ 9223372036854775807) (hms : more.size ≤ 9223372036854775807) (w : World) (hr : Rd w v n 1 (ints l)) (hr2 : Rd w u m 1 (ints l2)) :
    Calls Try.prog 4 #[v, u, .int .i64 c, .string more] w fun e w' => e = .returned (.bool true) ∧ Below w.heap.size w w' := by
  obtain ⟨va, vc, rfl, hv1, hv2⟩ := hr.shape
  obtain ⟨ua, uc, rfl, hu1, hu2⟩ := hr2.shape
  obtain ⟨N, hN⟩ : ∃ N, N = min n 1000 := ⟨_, rfl⟩
  obtain ⟨M, hM⟩ : ∃ M, M = min m 1000 := ⟨_, rfl⟩
  have hrN : Rd w (.slice va N vc) N 1 (ints (l.take N)) := by
    have := hr.take (k := N) (by omega)
    rw [Nat.mul_one] at this
    unfold ints at this ⊢
    rw [List.map_take]
    exact this
  have hrM : Rd w (.slice ua M uc) M 1 (ints (l2.take M)) := by
    have := hr2.take (k := M) (by omega)
    rw [Nat.mul_one] at this
    unfold ints at this ⊢
    rw [List.map_take]
    exact this
  have hlN : (l.take N).length = N := by rw [List.length_take]; omega
  have hlM : (l2.take M).length = M := by rw [List.length_take]; omega
  have hxN : ∀ x ∈ l.take N, -9223372036854775808 ≤ x ∧ x < 9223372036854775808 := fun x h => hx x (List.mem_of_mem_take h)
  have hxM : ∀ x ∈ l2.take M, -9223372036854775808 ≤ x ∧ x < 9223372036854775808 := fun x h => hx2 x (List.mem_of_mem_take h)
  generalize l.take N = L at hrN hlN hxN
  generalize l2.take M = L2 at hrM hlM hxM
  have hle := Lib.hid (lay_eq L L2 hxN hxM)
  clear hx hx2 hxN hxM hl hl2 hr hr2 l l2
  have hnN : N ≤ 1000 := by omega
  have hnM : M ≤ 1000 := by omega
  have h1 : (if (1000 : Int) < (n : Int) then (1000 : Int) else (n : Int)) = (N : Int) := by split <;> omega
  have h2 : (if (1000 : Int) < (m : Int) then (1000 : Int) else (m : Int)) = (M : Int) := by split <;> omega
  have h3 : (N : Int) ≤ (vc : Int) := by omega
  have h4 : (M : Int) ≤ (uc : Int) := by omega
  have HN := Lib.hid hN
  have HM := Lib.hid hM
  clear hN hM
  go_enter Try.func4, Try.ntmps4
  go_wp2_with fail
  refine (awake11_any w).mono ?_
  rintro e w1 ⟨rfl, B1⟩
  have hr1 := hrN.new B1
  have hr2 := hrM.new B1
  go_wp2_with fail
  refine (lay_any _ N L hlN (by omega) w1 hr1).mono ?_
  rintro e w2 ⟨rfl, B2⟩
  have BW2 := B1.trans (B2.mono B1.size)
  have hs := nats_lay L
  have hz : (strN (layNs L)).size = 16 + 8 * N := by rw [lay_size, hlN]
  have hr1 := hr1.new B2
  have hr2 := hr2.new B2
  have hle : Hid (strN (layNs L2) = strN (layNs L) ↔ L = L2) := hle
  obtain ⟨s, hsd⟩ : ∃ s, s = strN (layNs L) := ⟨_, rfl⟩
  rw [← hsd] at hs hz hle ⊢
  clear hsd
  have hs0 : ((s.size : Int) == 0) = false := by rw [hz]; simp; omega
  have Hs := Lib.hid hs
  have Hz := Lib.hid hz
  have hsm : s.size ≤ 16384 := by omega
  have hsp : 0 < s.size := by omega
  clear hs hz
  go_wp2_with fail
  refine (pick18_any c s.size (by omega) hc w2 (by omega)).mono ?_
  rintro e w2' ⟨k, rfl, hk, rfl⟩
  have hkI : (k : Int) ≤ (s.size : Int) := by omega
  have hcut : Hid (∀ w, Calls Try.prog 17 #[.string (s.extract 0 k)] w fun e w' => e = .returned (.tuple #[.slice none 0 0, .int .i64 210]) ∧ ∃ j, w' = w.drewN j) := Lib.hid fun w => by
    have hks : (s.extract 0 k).size = k := by rw [ByteArray.size_extract]; omega
    by_cases h16 : k < 16
    · exact (take_short (s.extract 0 k) (by omega) w).mono fun e w' ⟨h, h2⟩ => ⟨h, 0, h2.symm⟩
    · refine take_bad (s.extract 0 k) L N hlN (by omega) ?_ (by rw [hks, ← Hz.out]; omega) (by unfold maxLen; omega) (by omega) w
      rw [nats_extract, List.drop_zero, Nat.sub_zero, List.take_take, Nat.min_eq_left (by omega), Hs.out, lay_take8]
  go_wp2_with fail
  refine (hcut.out _).mono ?_
  rintro e w3 ⟨rfl, j3, hw3⟩
  have B3 : Below w2.heap.size w2 w3 := by rw [hw3]; exact Below.drewN' (Below.refl _ w2) j3
  clear hw3
  have BW3 := BW2.trans (B3.mono BW2.size)
  have hr1 := hr1.new B3
  have hr2 := hr2.new B3
  go_wp2_with fail
  refine (lay_any _ M L2 hlM (by omega) w3 hr2).mono ?_
  rintro e w4 ⟨rfl, B4⟩
  have BW4 := BW3.trans (B4.mono BW3.size)
  have hr1 := hr1.new B4
  have hr2 := hr2.new B4
  obtain ⟨s2, hsd⟩ : ∃ s, s = strN (layNs L2) := ⟨_, rfl⟩
  rw [← hsd] at hle ⊢
  clear hsd
  go_wp2_with fail
  refine (numbers_any _ _ N M L L2 hlN hlM w4 hr1 hr2).mono ?_
  rintro e w5 ⟨rfl, j5, hw5⟩
  have B5 : Below w4.heap.size w4 w5 := by rw [hw5]; exact Below.drewN' (Below.refl _ w4) j5
  clear hw5
  have BW5 := BW4.trans (B5.mono BW4.size)
  have hsame := same_bool s s2 L L2 hle.out
  by_cases hm0 : more.size = 0
  · have hmI : ((more.size : Int) == 0) = true := by rw [hm0]; rfl
    clear hm0
    go_wp2_with fail
    go_ret
    exact ⟨rfl, BW5⟩
  · have hmI : ((more.size : Int) == 0) = false := beq_eq_false_iff_ne.2 (by omega)
    have hmp : 0 < more.size := by omega
    clear hm0
    by_cases hm1 : 1000 < more.size
    · have hmJ : decide ((1000 : Int) < (more.size : Int)) = true := by simp; omega
      clear hm1
      go_wp2_with fail
      go_ret
      exact ⟨rfl, BW5⟩
    · have hmJ : decide ((1000 : Int) < (more.size : Int)) = false := by simp; omega
      have hapz : (s ++ more).size = s.size + more.size := by simp
      have htk : Hid (∀ w, Calls Try.prog 17 #[.string (s ++ more)] w fun e w' => e = .returned (.tuple #[.slice none 0 0, .int .i64 210]) ∧ ∃ j, w' = w.drewN j) := Lib.hid fun w => by
        refine take_bad (s ++ more) L N hlN (by omega) ?_ (by rw [hapz, Hz.out]; omega) (by unfold maxLen; omega) (by rw [hapz, Hz.out]; omega) w
        unfold nats
        rw [ByteArray.data_append, Array.toList_append, List.map_append]
        show List.take 8 (nats s ++ _) = _
        rw [List.take_append_of_le_length (by rw [nats_len, Hz.out]; omega), Hs.out, lay_take8]
      clear hapz
      have hapl : s.size + more.size ≤ 9223372036854775807 := by omega
      clear hm1
      go_wp2_with fail
      refine (htk.out _).mono ?_
      rintro e w6 ⟨rfl, j6, hw6⟩
      have B6 : Below w5.heap.size w5 w6 := by rw [hw6]; exact Below.drewN' (Below.refl _ w5) j6
      clear hw6
      have BW6 := BW5.trans (B6.mono BW5.size)
      go_wp2_with fail
      go_ret
      exact ⟨rfl, BW6⟩
end Go.Proofs.Ytlcmjpligaiadaa
