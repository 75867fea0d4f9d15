/- Contacts: whether a slice holds a point that is beyond. -/
import Derived.Test.YtpbpdgknjbjlcaaCb
namespace Go.Proofs.Ytpbpdgknjbjlcaa
open Go.RowKit
set_option maxRecDepth 100000 in
theorem index53_any (v : Value) (n : Nat) (l : List Pt) (K : Int) (bk : Nat) (w : World) (hl : l.length = n) (hv : Rd w v n 3 (ptCells l)) (h0 : 0 ≤ K) (h1 : K ≤ 4611686018427387904) (hb : Blk w bk 3 [.int .i64 K]) :
    Calls Try.prog 53 #[v, .func (.func 52) #[] #[.pointer (some ⟨bk, 0, none⟩)]] w fun e w' => (∃ k : Int, e = .returned (.int .i64 k) ∧ -1 ≤ k ∧ k ≤ 9223372036854775807 ∧ decide (0 ≤ k) = !(l.all (nearB K))) ∧ Below w.heap.size w w' := by
  obtain ⟨a, c, rfl, c1, c2⟩ := hv.shape
  have Hl := Lib.hid hl
  have Hv := Lib.hid hv
  have Hb := Lib.hid hb
  have hnm : (n : Int) ≤ 9223372036854775807 := by omega
  clear hl hv hb
  go_enter Try.func53, Try.ntmps53
  go_wp2_with fail
  go_loopw [5, 8] (fun _ i wr => ∃ k : Nat, k ≤ n ∧ i = .int .i64 (k : Int) ∧ Hid ((l.take k).all (nearB K) = true) ∧ Below w.heap.size w wr) (fun _ i _ => n - (intOf i).toNat)
  case atStart => exact ⟨0, Nat.zero_le _, rfl, Lib.hid (by simp), Below.refl _ _⟩
  case round =>
    obtain ⟨k, hk, rfl, HA, hB⟩ := hrel
    by_cases hkn : k < n
    · obtain ⟨x, hx⟩ : ∃ x, l[k]? = some x := ⟨_, List.getElem?_eq_getElem (by rw [Hl.out]; exact hkn)⟩
      obtain ⟨b, off, rfl⟩ := Hv.out.addr (by omega)
      obtain ⟨q0, q1, q2⟩ := (Hv.out.new hB).pt hkn hx
      have hkI : (k : Int) < (n : Int) := by omega
      have hs := hB.size
      have HB := Lib.hid hB
      have Hx := Lib.hid hx
      clear hx hB
      go_wp2_with fail
      refine (beyond52_any x K bk wr h0 h1 (Hb.out.below HB.out Hb.out.lt)).mono ?_
      rintro e w2 ⟨rfl, hB2⟩
      have hB2' := HB.out.trans (hB2.mono hs)
      clear q0 q1 q2 hB2
      cases hn : nearB K x with
      | true =>
        have HA2 : Hid ((l.take (k + 1)).all (nearB K) = true) := Lib.hid (by
          rw [List.take_add_one, Hx.out, List.all_append, HA.out]
          simp [hn])
        clear hn
        go_wp2
        go_roundw
        case rel => exact ⟨k + 1, by omega, by go_num, HA2, hB2'⟩
        case measure => simp [intOf]; omega
      | false =>
        have HF : Hid (l.all (nearB K) = false) := Lib.hid (by
          rw [List.all_eq_false]
          exact ⟨x, List.mem_of_getElem? Hx.out, by rw [hn]; simp⟩)
        clear hn
        go_wp2
        go_ret
        exact ⟨⟨k, rfl, by omega, by omega, by rw [HF.out]; simp⟩, hB2'⟩
    · obtain rfl : k = n := by omega
      have hall : l.all (nearB K) = true := by
        have := HA.out
        rw [← Hl.out, List.take_length] at this
        exact this
      have HF := Lib.hid hall
      clear hall
      go_wp2
      go_ret
      exact ⟨⟨-1, rfl, by omega, by omega, by rw [HF.out]; rfl⟩, hB⟩
set_option maxRecDepth 100000 in
theorem contains35_any (v : Value) (n : Nat) (l : List Pt) (K : Int) (bk : Nat) (w : World) (hl : l.length = n) (hv : Rd w v n 3 (ptCells l)) (h0 : 0 ≤ K) (h1 : K ≤ 4611686018427387904) (hb : Blk w bk 3 [.int .i64 K]) :
    Calls Try.prog 35 #[v, .func (.func 52) #[] #[.pointer (some ⟨bk, 0, none⟩)]] w fun e w' => e = .returned (.bool (!(l.all (nearB K)))) ∧ Below w.heap.size w w' := by
  go_enter Try.func35, Try.ntmps35
  go_wp2_with fail
  refine (index53_any v n l K bk w hl hv h0 h1 hb).mono ?_
  rintro e w2 ⟨⟨k, rfl, k1, k2, hk⟩, hB2⟩
  have HK := Lib.hid hk
  clear hk hl hv hb
  by_cases hk0 : 0 ≤ k
  · have HK2 : Hid ((!(l.all (nearB K))) = true) := Lib.hid (by rw [← HK.out]; simpa using hk0)
    go_wp2
    go_ret
    exact ⟨ret_bool HK2.out.symm, hB2⟩
  · have HK2 : Hid ((!(l.all (nearB K))) = false) := Lib.hid (by rw [← HK.out]; simpa using hk0)
    go_wp2
    go_ret
    exact ⟨ret_bool HK.out, hB2⟩
end Go.Proofs.Ytpbpdgknjbjlcaa
