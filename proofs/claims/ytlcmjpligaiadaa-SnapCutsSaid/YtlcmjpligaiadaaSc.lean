/- Snap: Lay. -/
import Derived.Test.YtlcmjpligaiadaaSb
import Derived.Test.YtlcmjpligaiadaaFl
import Derived.Laws.BytesArg
import Derived.Lib.SlBytesConst
namespace Go.Proofs.Ytlcmjpligaiadaa
open Go.RowKit
/-- A number as the machine's word. -/
def word (n : Int) : Nat := (n % 18446744073709551616).toNat
theorem word_lt (n : Int) : word n < 18446744073709551616 := by unfold word; omega
theorem word_wrap (n : Int) : IntKind.u64.wrap n = ((word n : Nat) : Int) := by rw [IntKind.wrap_u64]; unfold word; omega
theorem word_nat (n : Nat) (h : n < 18446744073709551616) : word n = n := by unfold word; omega
def headN (l : List Int) : List Nat := [84, 77, 66, 49] ++ be l.length 4
def midN (l : List Int) : List Nat := l.flatMap fun n => be (word n) 8
def bodyN (l : List Int) : List Nat := headN l ++ midN l
def layNs (l : List Int) : List Nat := bodyN l ++ be (sumN (bodyN l)) 8
def strN (xs : List Nat) : ByteArray := strOfNums (xs.map fun (x : Nat) => (x : Int))
theorem nats_strN {xs : List Nat} (h : ∀ x ∈ xs, x < 256) : nats (strN xs) = xs := by
  unfold nats strN strOfNums
  simp only [List.map_map]
  induction xs with
  | nil => rfl
  | cons a xs ih =>
    have h1 := h a (by simp)
    have h2 := ih fun x hx => h x (by simp [hx])
    simp only [List.map_cons] at h2 ⊢
    congr 1
    simp only [Function.comp]
    rw [Int.toNat_natCast, UInt8.toNat_ofNat']
    omega
theorem midN_snoc (l : List Int) (n : Int) : midN (l ++ [n]) = midN l ++ be (word n) 8 := by simp [midN]
theorem midN_len (l : List Int) : (midN l).length = l.length * 8 := by
  unfold midN
  induction l with
  | nil => rfl
  | cons a l ih => rw [List.flatMap_cons, List.length_append, ih, be_len, List.length_cons]; omega
theorem bodyN_len (l : List Int) : (bodyN l).length = 8 + l.length * 8 := by unfold bodyN headN; simp only [List.length_append, midN_len, be_len, List.length_cons, List.length_nil]
theorem bodyN_lt (l : List Int) : ∀ x ∈ bodyN l, x < 256 := by
  intro x hx
  unfold bodyN headN midN at hx
  simp only [List.mem_append, List.mem_cons, List.not_mem_nil, or_false, List.mem_flatMap] at hx
  rcases hx with (h | h) | ⟨n, _, h⟩
  · omega
  · exact be_lt _ _ x h
  · exact be_lt _ _ x h
/-- Bytes in a slice of the call's own, as a string. -/
theorem conv_own {w : World} {H m : Nat} {v : Value} {xs : List Nat} (hm : xs.length = m) (hm0 : m ≠ 0) (h : w.ownsRow H 5 1 v m (bys xs)) : (convert 91 9 v).run Try.prog w = .ok (.string (strN xs)) w := by
  obtain ⟨g, cap, rfl⟩ := own_shape h hm0
  have hr := Rd.of_own h
  refine run_convert_bytes_arg w 91 5 Try.underlying91 Try.underlying5 g 0 m cap (xs.map fun (x : Nat) => (x : Int)) (by simpa using hm) (fun i hi => ?_) 9 Try.underlying9
  rw [hr.at (by omega)]
  unfold bys
  rw [List.getElem?_map, List.getElem?_eq_getElem (by omega)]
  simp [hm, hi]
/-- put on a slice that is full. -/
theorem cells_Rd {w : World} {b : Nat} {e : TypeId} {C : Array Value} {r : Nat × Nat} {n : Nat} (h : w.heap[b]? = some (.cells C e r)) (hn : C.size = n) (hm : n ≤ maxLen) : Rd w (.slice (some ⟨b, 0, none⟩) n n) n 1 C.toList := by
  refine ⟨_, _, rfl, by simp [hn], Nat.le_refl _, hm, fun _ => ⟨b, 0, rfl, ?_, fun i hi => ?_⟩⟩
  · exact (Array.getElem?_eq_some_iff.1 h).1
  · simp [World.cell?, h]
set_option maxRecDepth 100000 in
set_option maxHeartbeats 1000000 in
theorem putb_full (H m b : Nat) (hm0 : m ≠ 0) (xs : List Nat) (u n : Nat) (hn0 : n ≠ 0) (hn : n ≤ 8) (hm : m ≤ 100000) (w : World) (hH : H ≤ w.heap.size) (hrd : Rd w (.slice (some ⟨b, 0, none⟩) m m) m 1 (bys xs)) :
    Calls Try.prog 56 #[.slice (some ⟨b, 0, none⟩) m m, .int .u64 (u : Int), .int .i64 (n : Int)] w (PutB H m xs u n w) := by
  obtain ⟨i0, hi, hz0, hz1, hz2⟩ := info_parts info5
  have hnI : (n : Int) ≤ 8 := by omega
  go_enter Try.func56, Try.ntmps56
  go_wp2
  go_loopw [0, 2] (fun b' i wr => ∃ (j : Nat) (vb : Value), j ≤ n ∧ i = .int .i64 ((j : Int) - 1) ∧ vb = b' ∧ ((j = n ∧ vb = .slice (some ⟨b, 0, none⟩) m m ∧ Rd wr vb m 1 (bys xs)) ∨ (j < n ∧ wr.ownsRow H 5 1 vb (m + (n - j)) (bys (xs ++ (be u n).take (n - j))))) ∧ Below H w wr) (fun _ i _ => ((intOf i) + 1).toNat)
  case atStart => exact ⟨n, _, Nat.le_refl _, rfl, rfl, .inl ⟨rfl, rfl, hrd⟩, Below.refl _ _⟩
  case round =>
    clear hrd
    obtain ⟨j, vb, hj, rfl, rfl, ho, hB⟩ := hrel
    by_cases hlt : 1 ≤ j
    · obtain ⟨j, rfl⟩ : ∃ j', j = j' + 1 := ⟨j - 1, by omega⟩
      rw [show ((j + 1 : Nat) : Int) - 1 = (j : Int) by omega]
      have hj0 : (0 : Int) ≤ (j : Int) := by omega
      have hj8 : (j : Int) ≤ 8 := by omega
      have hwr := hB.size
      have htk := be_take u n j (by omega)
      have Htk := Lib.hid htk
      have hd := Lib.hid (u8_digit u j)
      have hlen : m + (n - (j + 1)) ≤ 100008 := by omega
      obtain ⟨M, hM⟩ : ∃ M, M = m + (n - (j + 1)) := ⟨_, rfl⟩
      rw [← hM] at ho hlen
      have HM := Lib.hid hM
      clear htk hM
      rcases ho with ⟨hjn, rfl, ho⟩ | ⟨hjn, ho⟩
      · have Hjn := Lib.hid hjn
        clear hjn
        go_wp2_with (at_builtin; refine wpList_append_full rfl _ _ 91 rfl H 5 i0 (.int .u8 0) 1 1 Try.underlying91 hi hz0 hz1 hz2 rfl b 0 m rfl (bys xs) hm0 (ho.alloc _) (.slice (some ⟨wr.heap.size, 0, none⟩) 1 1) 1 [.int .u8 (IntKind.u8.wrap ((u : Int) / 2 ^ (8 * j)))] rfl (by decide) (Rd.of_own (ownsRow_blk (base := 0) (Blk.new wr 5 [_]) rfl (by decide) (Nat.zero_le _))) (by simp [Value.oneCell']) (by unfold maxLen; omega) (by omega) (by simp; omega) ?_; intro v' w1 o1 g1)
        have hB1 := (hB.alloc (by omega) (.cells #[.int .u8 (IntKind.u8.wrap ((u : Int) / 2 ^ (8 * j)))] 5)).trans (g1.mono (by simp; omega))
        go_roundw
        case rel =>
          refine ⟨j, _, by omega, rfl, rfl, .inr ⟨by have := Hjn.out; omega, ?_⟩, hB1⟩
          rw [Htk.out, show n - (j + 1) = 0 by have := Hjn.out; omega, show m + (n - j) = m + 1 by have := Hjn.out; omega, List.take_zero, List.nil_append, bys_append]
          rw [hd.out] at o1
          exact o1
        case measure => simp [intOf]
      · have Hjn := Lib.hid hjn
        clear hjn
        go_wp2_with (at_builtin; refine wpList_append_own _ rfl _ _ 91 rfl H 5 i0 (.int .u8 0) 1 1 Try.underlying91 hi hz0 hz1 hz2 rfl (by decide) _ _ _ rfl (ho.alloc _) ⟨wr.heap.size, 0, none⟩ 1 1 [.int .u8 (IntKind.u8.wrap ((u : Int) / 2 ^ (8 * j)))] rfl rfl (cell_one_new _ _ _) (by simp [Value.oneCell']) (by unfold maxLen; omega) (by omega) (by simp; omega) ?_; intro v' w1 o1 g1 _)
        have hB1 := (hB.alloc (by omega) (.cells #[.int .u8 (IntKind.u8.wrap ((u : Int) / 2 ^ (8 * j)))] 5)).grown g1 (by simp; omega) (fun r hr => ownBlock_ge ho hr)
        go_roundw
        case rel => exact ⟨j, _, by omega, rfl, rfl, .inr ⟨by have := Hjn.out; omega, by rw [Htk.out, ← List.append_assoc, bys_append (xs ++ _), show m + (n - j) = M + 1 by have := HM.out; omega]; rw [hd.out] at o1; exact o1⟩, hB1⟩
        case measure => simp [intOf]
    · obtain rfl : j = 0 := by omega
      have ht : (be u n).take (n - 0) = be u n := by rw [List.take_of_length_le (by rw [be_len]; omega)]
      rw [ht] at ho
      have ho := ho.resolve_left (fun h => hn0 h.1.symm)
      have HO := Lib.hid ho.2
      clear ho ht
      go_wp2
      go_ret
      exact ⟨_, rfl, HO.out, hB⟩
def LayP (l : List Int) (w : World) (e : Ending) (w' : World) : Prop := e = .returned (.string (strN (layNs l))) ∧ Below w.heap.size w w'
set_option maxRecDepth 100000 in
set_option maxHeartbeats 1000000 in
theorem lay_big (v : Value) (n : Nat) (l : List Int) (w : World) (hr : Rd w v n 1 (ints l)) (hn : 4000 < n) :
    Calls Try.prog 12 #[v] w fun e w' => e = .returned (.string ⟨#[]⟩) ∧ w = w' := by
  obtain ⟨a, c, rfl, _, _⟩ := hr.shape
  have hnI : (4000 : Int) < (n : Int) := by omega
  go_enter Try.func12, Try.ntmps12
  go_wp2
  go_ret
  exact ⟨rfl, rfl⟩
set_option maxRecDepth 100000 in
set_option maxHeartbeats 2000000 in
theorem lay_any (v : Value) (n : Nat) (l : List Int) (hl : l.length = n) (hn : n ≤ 4000) (w : World) (hr : Rd w v n 1 (ints l)) :
    Calls Try.prog 12 #[v] w (LayP l w) := by
  obtain ⟨a, c, rfl, _, _⟩ := hr.shape
  have hnI : ¬ (4000 : Int) < (n : Int) := by omega
  have Hl := Lib.hid hl
  have hw4 := Lib.hid (word_wrap (n : Int))
  have hw4' := Lib.hid (word_nat n (by omega))
  have kc := fun (w : World) (C : Array Value) (n c : Nat) => Lib.run_convert_bytes_const (P := Try.prog) w 91 5 C n c Try.underlying91 Try.underlying5
  clear hl
  go_enter Try.func12, Try.ntmps12
  go_wp2_with fail
  have B0 : Below w.heap.size w (w.alloc (.cells #[.int .u8 84, .int .u8 77, .int .u8 66, .int .u8 49] 5 (4, 5))) := (Below.refl _ w).alloc (Nat.le_refl _) _
  have o0 : Rd (w.alloc (.cells #[.int .u8 84, .int .u8 77, .int .u8 66, .int .u8 49] 5 (4, 5))) (.slice (some ⟨w.heap.size, 0, none⟩) 4 4) 4 1 (bys [84, 77, 66, 49]) := cells_Rd (heap_alloc_new w _) rfl (by decide)
  refine (putb_full w.heap.size 4 _ (by decide) [84, 77, 66, 49] n 4 (by decide) (by decide) (by decide) _ B0.size o0).mono ?_
  rintro e w1 ⟨v1, rfl, o1, B1'⟩
  have B1 := B0.trans B1'
  have hh : [84, 77, 66, 49] ++ be n 4 = headN l := by unfold headN; rw [Hl.out]
  rw [hh] at o1
  have O1 := Lib.hid o1
  clear o0 o1 B1' B0 hh kc
  go_wp2
  go_loopw [3, 5, 17] (fun b _ i wr => ∃ (k : Nat) (vb : Value), k ≤ n ∧ i = .int .i64 k ∧ vb = b ∧ wr.ownsRow w.heap.size 5 1 vb (8 + k * 8) (bys (headN l ++ midN (l.take k))) ∧ Below w.heap.size w wr) (fun _ _ i _ => n - (intOf i).toNat)
  case atStart => exact ⟨0, v1, Nat.zero_le _, rfl, rfl, by simpa [midN] using O1.out, B1⟩
  case round =>
    clear O1 B1
    obtain ⟨k, vb, hk, rfl, rfl, ho, hB⟩ := hrel
    by_cases hlt : k < n
    · have hkI : (k : Int) < (n : Int) := by omega
      obtain ⟨x, hx⟩ : ∃ x, l[k]? = some x := ⟨_, List.getElem?_eq_getElem (by rw [Hl.out]; exact hlt)⟩
      obtain ⟨ab, ao, rfl⟩ := hr.addr (by omega)
      have hr' := hr.new hB
      have f0 := hr'.int Hl.out hlt
      rw [hx] at f0
      simp only [Option.getD_some] at f0
      have htk : midN (l.take (k + 1)) = midN (l.take k) ++ be (word x) 8 := by
        obtain ⟨h1, h2⟩ := List.getElem?_eq_some_iff.1 hx
        rw [List.take_succ_eq_append_getElem h1, h2, midN_snoc]
      have Htk := Lib.hid htk
      have hww := Lib.hid (word_wrap x)
      clear hx htk
      go_wp2_with fail
      rw [hww.out]
      refine (putb_any w.heap.size (8 + k * 8) _ (headN l ++ midN (l.take k)) (word x) 8 (by decide) (by omega) _ hB.size ho).mono ?_
      rintro e w2 ⟨v2, rfl, o2, B2⟩
      go_wp2
      go_roundw
      case rel => exact ⟨k + 1, _, by omega, by go_num, rfl, by rw [Htk.out, ← List.append_assoc, show 8 + (k + 1) * 8 = 8 + k * 8 + 8 by omega]; exact o2, hB.trans B2⟩
      case measure => simp [intOf]; omega
    · obtain rfl : k = n := by omega
      have hkI : ¬ (k : Int) < (k : Int) := by omega
      have ht : l.take k = l := by rw [← Hl.out, List.take_length]
      rw [ht] at ho
      have hbl : (bodyN l).length = 8 + k * 8 := by rw [bodyN_len, Hl.out]
      have hcv := conv_own (H := w.heap.size) (w := wr) (v := vb) (xs := bodyN l) hbl (by omega) ho
      have HO := Lib.hid ho
      have Hbl := Lib.hid hbl
      have Hcv := Lib.hid hcv
      clear ho ht hbl hcv
      go_wp2_with (simp only [Hcv.out])
      have hsz : (strN (bodyN l)).size = 8 + k * 8 := by rw [← nats_len, nats_strN (bodyN_lt l), Hbl.out]
      refine (sum14_any (strN (bodyN l)) wr (by rw [hsz]; unfold maxLen; omega)).mono ?_
      rintro e w2 ⟨rfl, rfl⟩
      rw [nats_strN (bodyN_lt l)]
      go_wp2_with fail
      refine (putb_any w.heap.size (8 + k * 8) _ (bodyN l) (sumN (bodyN l)) 8 (by decide) (by omega) _ hB.size HO.out).mono ?_
      rintro e w2 ⟨v2, rfl, o2, B2⟩
      have hll : (layNs l).length = 8 + k * 8 + 8 := by unfold layNs; rw [List.length_append, Hbl.out, be_len]
      have hcv2 := conv_own (H := w.heap.size) (w := w2) (v := v2) (xs := layNs l) hll (by omega) o2
      have Hcv2 := Lib.hid hcv2
      have HB := Lib.hid (hB.trans B2)
      clear hcv2 o2 hll hsz
      go_wp2_with (simp only [Hcv2.out])
      go_ret
      exact ⟨rfl, HB.out⟩
end Go.Proofs.Ytlcmjpligaiadaa
