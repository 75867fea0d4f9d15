/- Snap: the sum of a string's bytes; a number by so many bytes, and back. -/
import Derived.Test.YtlcmjpligaiadaaW1
import Derived.Test.YtlcmjpligaiadaaCp
import Derived.LoopTactic
import Derived.Laws.BitsAllLaws
import Derived.Laws.Bits64
namespace Go.Proofs.Ytlcmjpligaiadaa
open Go.RowKit
/-- A number by n bytes, the highest first. -/
def be (u : Nat) : Nat → List Nat
  | 0 => []
  | n + 1 => (u / 256 ^ n % 256) :: be u n
theorem be_len (u : Nat) : ∀ n, (be u n).length = n
  | 0 => rfl
  | n + 1 => by simp [be, be_len u n]
theorem be_lt (u : Nat) : ∀ n, ∀ x ∈ be u n, x < 256
  | 0, x, h => by simp [be] at h
  | n + 1, x, h => by
    rcases List.mem_cons.1 h with rfl | h
    · exact Nat.mod_lt _ (by decide)
    · exact be_lt u n x h
def getStep (x b : Nat) : Nat := x * 256 % 18446744073709551616 + b
def getN (l : List Nat) : Nat := l.foldl getStep 0
theorem get_be (u : Nat) : ∀ (n x : Nat), x * 256 ^ n + u % 256 ^ n < 18446744073709551616 → (be u n).foldl getStep x = x * 256 ^ n + u % 256 ^ n
  | 0, x, _ => by simp [be, Nat.mod_one]
  | n + 1, x, h => by
    have hp : 0 < 256 ^ n := Nat.pow_pos (by decide)
    have hm : u % 256 ^ (n + 1) = (u / 256 ^ n % 256) * 256 ^ n + u % 256 ^ n := by
      rw [Nat.pow_succ, Nat.mod_mul]
      rw [Nat.mul_comm (256 ^ n), Nat.add_comm]
    have he : 256 ^ (n + 1) = 256 ^ n * 256 := Nat.pow_succ 256 n
    have hx : x * 256 < 18446744073709551616 := by
      rcases Nat.eq_zero_or_pos x with rfl | hx
      · decide
      · have : x * 256 * 1 ≤ x * 256 * 256 ^ n := Nat.mul_le_mul_left _ hp
        have e2 : x * 256 ^ (n + 1) = x * 256 * 256 ^ n := by rw [he, Nat.mul_comm (256 ^ n), Nat.mul_assoc]
        omega
    have e3 : (x * 256 + u / 256 ^ n % 256) * 256 ^ n + u % 256 ^ n = x * 256 ^ (n + 1) + u % 256 ^ (n + 1) := by
      rw [hm, he, Nat.add_mul, Nat.mul_comm (256 ^ n) 256, Nat.mul_assoc, Nat.add_assoc]
    have hgs : getStep x (u / 256 ^ n % 256) = x * 256 + u / 256 ^ n % 256 := by unfold getStep; rw [Nat.mod_eq_of_lt hx]
    simp only [be, List.foldl_cons, hgs]
    have := get_be u n (x * 256 + u / 256 ^ n % 256) (by rw [e3]; exact h)
    rw [this, e3]
theorem getN_be {u n : Nat} (hu : u < 256 ^ n) (h : u < 18446744073709551616) : getN (be u n) = u := by
  have := get_be u n 0 (by rw [Nat.mod_eq_of_lt hu]; omega)
  unfold getN
  rw [this, Nat.mod_eq_of_lt hu]; omega
def sumStep (h b : Nat) : Nat := (h ^^^ b) * 1099511628211 % 18446744073709551616
def sumN (l : List Nat) : Nat := l.foldl sumStep 14695981039346656037
theorem sumStep_lt (h b : Nat) : sumStep h b < 18446744073709551616 := by unfold sumStep; omega
theorem fold_lt : ∀ (l : List Nat) (x : Nat), x < 18446744073709551616 → l.foldl sumStep x < 18446744073709551616
  | [], _, h => h
  | b :: l, x, _ => fold_lt l (sumStep x b) (sumStep_lt x b)
theorem sumN_lt (l : List Nat) : sumN l < 18446744073709551616 := fold_lt l _ (by omega)
theorem sumN_nil : ((sumN [] : Nat) : Int) = 14695981039346656037 := by simp only [sumN, List.foldl_nil]; omega
/-- The bytes of a string. -/
def nats (s : ByteArray) : List Nat := s.data.toList.map UInt8.toNat
theorem nats_len (s : ByteArray) : (nats s).length = s.size := by simp [nats]
theorem nats_get {s : ByteArray} {k : Nat} (h : k < s.size) : (nats s)[k]? = some (s[k]).toNat := by
  unfold nats
  rw [List.getElem?_map, List.getElem?_eq_getElem (by simpa using h)]
  rfl
theorem nats_take {s : ByteArray} {k : Nat} (h : k < s.size) : (nats s).take (k + 1) = (nats s).take k ++ [(s[k]).toNat] := by
  have hk := nats_get h
  obtain ⟨h1, h2⟩ := List.getElem?_eq_some_iff.1 hk
  rw [List.take_succ_eq_append_getElem h1, h2]
theorem sum_step (x b : Nat) (hx : x < 18446744073709551616) (hb : b < 256) : IntKind.u64.wrap (bits BinOp.xor IntKind.u64 (x : Int) (IntKind.u64.wrap (b : Int)) * 1099511628211) = ((sumStep x b : Nat) : Int) := by
  rw [IntWalk.u64_in (b : Int) (by omega), u64_xor_nat x b hx (by omega), IntKind.wrap_u64]
  unfold sumStep
  omega
theorem get_step (x b : Nat) (hb : b < 256) : bits BinOp.or IntKind.u64 (IntKind.u64.wrap ((x : Int) * 256)) (IntKind.u64.wrap (b : Int)) = ((getStep x b : Nat) : Int) := by
  rw [IntWalk.u64_in (b : Int) (by omega), IntKind.wrap_u64]
  have e1 : ((x : Int) * 256) % 18446744073709551616 = ((x * 256 % 18446744073709551616 : Nat) : Int) := by omega
  rw [e1, u64_or_nat _ b (Nat.mod_lt _ (by decide)) (by omega)]
  unfold getStep
  have e2 : x * 256 % 18446744073709551616 = (x % 72057594037927936) <<< 8 := by rw [Nat.shiftLeft_eq]; omega
  rw [e2, Nat.shiftLeft_add_eq_or_of_lt (by omega)]
set_option maxRecDepth 100000 in
set_option maxHeartbeats 1000000 in
theorem sum14_any (s : ByteArray) (w : World) (hs : s.size ≤ maxLen) :
    Calls Try.prog 14 #[.string s] w fun e w' => e = .returned (.int .u64 ((sumN (nats s) : Nat) : Int)) ∧ w = w' := by
  unfold maxLen at hs
  go_enter Try.func14, Try.ntmps14
  go_wp2
  go_loop [3, 4, 7] (fun h _ i => ∃ k : Nat, k ≤ s.size ∧ i = .int .i64 k ∧ h = .int .u64 ((sumN ((nats s).take k) : Nat) : Int)) (fun _ _ i => s.size - (intOf i).toNat)
  case atStart => exact ⟨0, Nat.zero_le _, rfl, by rw [List.take_zero, sumN_nil]⟩
  case round =>
    obtain ⟨k, hk, rfl, rfl⟩ := hrel
    have hlt64 := sumN_lt ((nats s).take k)
    by_cases hlt : k < s.size
    · have hkI : (k : Int) < (s.size : Int) := by omega
      have hsn : sumN ((nats s).take (k + 1)) = sumStep (sumN ((nats s).take k)) (s[k]).toNat := by
        rw [nats_take hlt]; unfold sumN; rw [List.foldl_append, List.foldl_cons, List.foldl_nil]
      have Hsn := Lib.hid hsn
      have hb := (s[k]).toNat_lt
      have Hst := Lib.hid (sum_step (sumN ((nats s).take k)) (s[k]).toNat hlt64 (by omega))
      clear hsn hb hlt64
      generalize sumN ((nats s).take k) = x at *
      go_wp2
      go_round
      case rel => exact ⟨k + 1, by omega, by go_num, by rw [Hsn.out, Hst.out]⟩
      case measure => simp [intOf]; omega
    · obtain rfl : k = s.size := by omega
      have ht : (nats s).take s.size = nats s := by rw [List.take_of_length_le (by rw [nats_len]; exact Nat.le_refl _)]
      rw [ht]
      clear ht hlt64
      go_wp2
      go_ret
      exact ⟨rfl, rfl⟩
set_option maxRecDepth 100000 in
set_option maxHeartbeats 1000000 in
theorem get58_any (s : ByteArray) (w : World) (hs : s.size ≤ maxLen) :
    Calls Try.prog 58 #[.string s] w fun e w' => e = .returned (.int .u64 ((getN (nats s) : Nat) : Int)) ∧ w = w' := by
  unfold maxLen at hs
  go_enter Try.func58, Try.ntmps58
  go_wp2
  go_loop [2, 3, 6] (fun h _ i => ∃ k : Nat, k ≤ s.size ∧ i = .int .i64 k ∧ h = .int .u64 ((getN ((nats s).take k) : Nat) : Int)) (fun _ _ i => s.size - (intOf i).toNat)
  case atStart => exact ⟨0, Nat.zero_le _, rfl, rfl⟩
  case round =>
    obtain ⟨k, hk, rfl, rfl⟩ := hrel
    by_cases hlt : k < s.size
    · have hkI : (k : Int) < (s.size : Int) := by omega
      have hsn : getN ((nats s).take (k + 1)) = getStep (getN ((nats s).take k)) (s[k]).toNat := by
        rw [nats_take hlt]; unfold getN; rw [List.foldl_append, List.foldl_cons, List.foldl_nil]
      have Hsn := Lib.hid hsn
      have hb := (s[k]).toNat_lt
      have Hst := Lib.hid (get_step (getN ((nats s).take k)) (s[k]).toNat (by omega))
      clear hsn hb
      generalize getN ((nats s).take k) = x at *
      go_wp2
      go_round
      case rel => exact ⟨k + 1, by omega, by go_num, by rw [Hsn.out, Hst.out]⟩
      case measure => simp [intOf]; omega
    · obtain rfl : k = s.size := by omega
      have ht : (nats s).take s.size = nats s := by rw [List.take_of_length_le (by rw [nats_len]; exact Nat.le_refl _)]
      rw [ht]
      clear ht
      go_wp2
      go_ret
      exact ⟨rfl, rfl⟩
end Go.Proofs.Ytlcmjpligaiadaa
