/- Snap: the document's Sum, high and Lay. -/
import Derived.Test.YtlcmjpligaiadaaSc
import Derived.Test.YtlcmjpligaiadaaAp
import Derived.Lib.AppendStr
namespace Go.Proofs.Ytlcmjpligaiadaa
open Go.RowKit
set_option maxRecDepth 100000 in
set_option maxHeartbeats 1000000 in
theorem sum15_any (s : ByteArray) (w : World) (hs : s.size ≤ maxLen) :
    Calls Try.prog 15 #[.string s] w fun e w' => e = .returned (.int .u64 ((sumN (nats s) : Nat) : Int)) ∧ w = w' := by
  unfold maxLen at hs
  go_enter Try.func15, Try.ntmps15
  go_wp2
  go_loop [3, 4] (fun h i => ∃ k : Nat, k ≤ s.size ∧ i = .int .i64 k ∧ h = .int .u64 ((sumN ((nats s).take k) : Nat) : Int)) (fun _ i => s.size - (intOf i).toNat)
  case atStart => exact ⟨0, Nat.zero_le _, rfl, by rw [List.take_zero, sumN_nil]⟩
  case round =>
    obtain ⟨k, hk, rfl, rfl⟩ := hrel
    have hlt64 := sumN_lt ((nats s).take k)
    by_cases hlt : k < s.size
    · have hkI : (k : Int) < (s.size : Int) := by omega
      have hsn : sumN ((nats s).take (k + 1)) = sumStep (sumN ((nats s).take k)) (s[k]).toNat := by
        rw [nats_take hlt]; unfold sumN; rw [List.foldl_append, List.foldl_cons, List.foldl_nil]
      have Hsn := Lib.hid hsn
      have hb := (s[k]).toNat_lt
      have Hst := Lib.hid (sum_step (sumN ((nats s).take k)) (s[k]).toNat hlt64 (by omega))
      clear hsn hb hlt64
      generalize sumN ((nats s).take k) = x at *
      go_wp2
      go_round
      case rel => exact ⟨k + 1, by omega, by go_num, by rw [Hsn.out, Hst.out]⟩
      case measure => simp [intOf]; omega
    · obtain rfl : k = s.size := by omega
      have ht : (nats s).take s.size = nats s := by rw [List.take_of_length_le (by rw [nats_len]; exact Nat.le_refl _)]
      rw [ht]
      clear ht hlt64
      go_wp2
      go_ret
      exact ⟨rfl, rfl⟩
def HighP (u n : Nat) (w : World) (e : Ending) (w' : World) : Prop := e = .returned (.string (strN (be u n))) ∧ Below w.heap.size w w'
set_option maxRecDepth 100000 in
set_option maxHeartbeats 1000000 in
theorem high_any (u n : Nat) (hu : u < 18446744073709551616) (hn0 : n ≠ 0) (hn : n ≤ 8) (w : World) :
    Calls Try.prog 57 #[.int .u64 (u : Int), .int .i64 (n : Int)] w (HighP u n w) := by
  obtain ⟨i0, hi, hz0, hz1, hz2⟩ := info_parts info5
  have hnI : (n : Int) ≤ 8 := by omega
  have Hu := Lib.hid hu
  clear hu
  go_enter Try.func57, Try.ntmps57
  go_wp2
  go_loopw [0, 5, 6] (fun x b i wr => ∃ (j : Nat) (vb : Value), j ≤ n ∧ i = .int .i64 (j : Int) ∧ x = .int .u64 ((u / 256 ^ j : Nat) : Int) ∧ vb = b ∧ wr.ownsRow w.heap.size 5 1 vb j (bys (be u j)) ∧ Below w.heap.size w wr) (fun _ _ i _ => n - (intOf i).toNat)
  case atStart => exact ⟨0, _, Nat.zero_le _, rfl, by simp, rfl, World.ownsRow_nil w _ _ _, Below.refl _ _⟩
  case round =>
    obtain ⟨j, vb, hj, rfl, rfl, rfl, ho, hB⟩ := hrel
    by_cases hlt : j < n
    · have hjI : (j : Int) < (n : Int) := by omega
      have hwr := hB.size
      obtain ⟨x, hx⟩ : ∃ x, x = u / 256 ^ j := ⟨_, rfl⟩
      rw [← hx]
      have Hx := Lib.hid hx
      clear hx
      have ob : (wr.alloc (.cells #[.int .u8 ((x : Int) % 256)] 5)).ownsRow w.heap.size 5 1 (.slice (some ⟨wr.heap.size, 0, none⟩) 1 1) 1 [.int .u8 ((x : Int) % 256)] := ownsRow_blk (Blk.new wr 5 [_]) rfl (by decide) hwr
      have rb := (Rd.of_own ho).alloc (.cells #[.int .u8 ((x : Int) % 256)] 5)
      have hone : ∀ u' ∈ bys (be u j), u'.oneCell' = true := by
        intro u' hu'; obtain ⟨y, _, rfl⟩ := List.mem_map.1 hu'; rfl
      have hB1 := hB.alloc hwr (.cells #[.int .u8 ((x : Int) % 256)] 5)
      go_wp2_with (at_builtin; refine wpList_append_rd rfl _ _ 91 rfl w.heap.size 5 i0 (.int .u8 0) 1 1 Try.underlying91 hi hz0 hz1 hz2 rfl (by decide) _ _ _ rfl ob _ j (bys (be u j)) rfl rb hone (by unfold maxLen; omega) (by omega) hB1.size ?_; intro v' w1 o1 g1 _)
      have hB2 := hB1.grown g1 hB1.size (fun r hr => ownBlock_ge ob hr)
      go_roundw
      case rel =>
        refine ⟨j + 1, _, by omega, by go_num, ?_, rfl, ?_, hB2⟩
        · rw [Nat.pow_succ, ← Nat.div_div_eq_div_mul, ← Hx.out]
          have h1 : x ≤ u := by rw [Hx.out]; exact Nat.div_le_self _ _
          have h2 := Hu.out
          rw [IntWalk.u64_in _ (by omega)]; rfl
        · rw [Nat.add_comm j 1]
          have e1 : bys (be u (1 + j)) = [.int .u8 ((x : Int) % 256)] ++ bys (be u j) := by rw [Nat.add_comm 1 j, be, ← Hx.out]; simp [bys]
          rw [e1]; exact o1
      case measure => simp [intOf]; omega
    · obtain rfl : j = n := by omega
      have hjI : ¬ (j : Int) < (j : Int) := by omega
      have hcv := conv_own (H := w.heap.size) (w := wr) (v := vb) (xs := be u j) (be_len u j) hn0 ho
      have Hcv := Lib.hid hcv
      have HB := Lib.hid hB
      clear ho hcv hB
      go_wp2_with (simp only [Hcv.out])
      go_ret
      exact ⟨rfl, HB.out⟩
end Go.Proofs.Ytlcmjpligaiadaa
