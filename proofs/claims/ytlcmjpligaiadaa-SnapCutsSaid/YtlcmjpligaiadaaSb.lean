/- Snap: a number laid by so many bytes. -/
import Derived.Test.YtlcmjpligaiadaaSa
import Derived.Test.YtlcmjpligaiadaaW5
namespace Go.Proofs.Ytlcmjpligaiadaa
open Go.RowKit
theorem info5 : (Try.prog.info? 5).map (fun i => (i.zero, i.size, i.bytes)) = some (some (.int .u8 0), 1, 1) := by kernel_rfl
def bys (xs : List Nat) : List Value := xs.map fun (x : Nat) => Value.int .u8 (x : Int)
theorem bys_append (a b : List Nat) : bys (a ++ b) = bys a ++ bys b := by simp [bys]
theorem bys_len (a : List Nat) : (bys a).length = a.length := by simp [bys]
def PutB (H : Nat) (m : Nat) (xs : List Nat) (u n : Nat) (w : World) (e : Ending) (w' : World) : Prop :=
  ∃ v', e = .returned v' ∧ w'.ownsRow H 5 1 v' (m + n) (bys (xs ++ be u n)) ∧ Below H w w'
theorem be_take (u n j : Nat) (hj : j < n) : (be u n).take (n - j) = (be u n).take (n - (j + 1)) ++ [u / 256 ^ j % 256] := by
  induction n with
  | zero => omega
  | succ n ih =>
    rcases Nat.lt_or_ge j n with h | h
    · rw [show n + 1 - j = (n - j) + 1 by omega, show n + 1 - (j + 1) = (n - (j + 1)) + 1 by omega]
      simp only [be, List.take_succ_cons, List.cons_append]
      rw [ih h]
    · obtain rfl : j = n := by omega
      simp [be]
theorem u8_digit (u j : Nat) : IntKind.u8.wrap ((u : Int) / 2 ^ (8 * j)) = ((u / 256 ^ j % 256 : Nat) : Int) := by
  have e : (2 : Int) ^ (8 * j) = ((256 ^ j : Nat) : Int) := by
    rw [Int.pow_mul]; rfl
  rw [e]
  simp [IntKind.wrap, IntKind.bits, IntKind.signed]
set_option maxRecDepth 100000 in
set_option maxHeartbeats 1000000 in
theorem putb_any (H m : Nat) (v : Value) (xs : List Nat) (u n : Nat) (hn : n ≤ 8) (hm : m ≤ 100000) (w : World) (hH : H ≤ w.heap.size) (ho : w.ownsRow H 5 1 v m (bys xs)) :
    Calls Try.prog 56 #[v, .int .u64 (u : Int), .int .i64 (n : Int)] w (PutB H m xs u n w) := by
  obtain ⟨i0, hi, hz0, hz1, hz2⟩ := info_parts info5
  have hnI : (n : Int) ≤ 8 := by omega
  go_enter Try.func56, Try.ntmps56
  go_wp2
  go_loopw [0, 2] (fun b i wr => ∃ (j : Nat) (vb : Value), j ≤ n ∧ i = .int .i64 ((j : Int) - 1) ∧ vb = b ∧ wr.ownsRow H 5 1 vb (m + (n - j)) (bys (xs ++ (be u n).take (n - j))) ∧ Below H w wr) (fun _ i _ => ((intOf i) + 1).toNat)
  case atStart => exact ⟨n, v, Nat.le_refl _, rfl, rfl, by simpa using ho, Below.refl _ _⟩
  case round =>
    clear ho
    obtain ⟨j, vb, hj, rfl, rfl, ho, hB⟩ := hrel
    by_cases hlt : 1 ≤ j
    · obtain ⟨j, rfl⟩ : ∃ j', j = j' + 1 := ⟨j - 1, by omega⟩
      rw [show ((j + 1 : Nat) : Int) - 1 = (j : Int) by omega]
      have hj0 : (0 : Int) ≤ (j : Int) := by omega
      have hj8 : (j : Int) ≤ 8 := by omega
      have hwr := hB.size
      have htk := be_take u n j (by omega)
      have Htk := Lib.hid htk
      have hd := Lib.hid (u8_digit u j)
      have hlen : m + (n - (j + 1)) ≤ 100008 := by omega
      obtain ⟨M, hM⟩ : ∃ M, M = m + (n - (j + 1)) := ⟨_, rfl⟩
      rw [← hM] at ho hlen
      have HM := Lib.hid hM
      clear htk hM
      go_wp2_with (at_builtin; refine wpList_append_own _ rfl _ _ 91 rfl H 5 i0 (.int .u8 0) 1 1 Try.underlying91 hi hz0 hz1 hz2 rfl (by decide) _ _ _ rfl (ho.alloc _) ⟨wr.heap.size, 0, none⟩ 1 1 [.int .u8 (IntKind.u8.wrap ((u : Int) / 2 ^ (8 * j)))] rfl rfl (cell_one_new _ _ _) (by simp [Value.oneCell']) (by unfold maxLen; omega) (by omega) (by simp; omega) ?_; intro v' w1 o1 g1 _)
      have hB1 := (hB.alloc (by omega) (.cells #[.int .u8 (IntKind.u8.wrap ((u : Int) / 2 ^ (8 * j)))] 5)).grown g1 (by simp; omega) (fun r hr => ownBlock_ge ho hr)
      go_roundw
      case rel => exact ⟨j, _, by omega, rfl, rfl, by rw [Htk.out, ← List.append_assoc, bys_append (xs ++ _), show m + (n - j) = M + 1 by have := HM.out; omega]; rw [hd.out] at o1; exact o1, hB1⟩
      case measure => simp [intOf]
    · obtain rfl : j = 0 := by omega
      have ht : (be u n).take (n - 0) = be u n := by rw [List.take_of_length_le (by rw [be_len]; omega)]
      rw [ht] at ho
      have HO := Lib.hid ho
      clear ho ht
      go_wp2
      go_ret
      exact ⟨_, rfl, HO.out, hB⟩
end Go.Proofs.Ytlcmjpligaiadaa
