/- Snap: the document's Lay. -/
import Derived.Test.YtlcmjpligaiadaaSd
namespace Go.Proofs.Ytlcmjpligaiadaa
open Go.RowKit
theorem strN_append (a b : List Nat) : strN (a ++ b) = strN a ++ strN b := by
  apply ByteArray.ext
  unfold strN strOfNums
  simp [ByteArray.data_append]
theorem strN_size (a : List Nat) : (strN a).size = a.length := by unfold strN; rw [strOfNums_size, List.length_map]
theorem strN_cells {xs : List Nat} (h : ∀ x ∈ xs, x < 256) : Lib.strCells (strN xs) = bys xs := by
  unfold Lib.strCells strN strOfNums bys
  simp only [List.map_map]
  refine List.map_congr_left fun x hx => ?_
  have := h x hx
  simp only [Function.comp, Int.toNat_natCast, UInt8.toNat_ofNat']
  congr 2
  omega
theorem headN_lt (l : List Int) : ∀ x ∈ headN l, x < 256 := fun x hx => bodyN_lt l x (by unfold bodyN; simp [hx])
theorem headN_len (l : List Int) : (headN l).length = 8 := by unfold headN; simp [be_len]
theorem head_own (w1 : World) (H : Nat) (hH : H ≤ w1.heap.size) (T : ByteArray) (hT : T.size = 4) (xs : List Nat) (hx : Lib.strCells T = bys xs) (c : Nat) (h1 : 8 ≤ c) (h2 : c ≤ maxLen) :
    (w1.alloc (.cells ((#[Value.int IntKind.u8 84, Value.int IntKind.u8 77, Value.int IntKind.u8 66, Value.int IntKind.u8 49] : Array Value) ++ ((Array.map (fun b => Value.int IntKind.u8 ↑b.toNat) T.data).extract 0 4 ++ Builtin.zeroCells #[Value.int IntKind.u8 0] (c - 8))) 5)).drew.ownsRow H 5 1 (.slice (some ⟨w1.heap.size, 0, none⟩) 8 c) 8 (bys ([84, 77, 66, 49] ++ xs)) := by
  have hl : (Lib.strCells T).length = 4 := by rw [Lib.strCells_length, hT]
  have e1 : ((Array.map (fun b : UInt8 => Value.int IntKind.u8 (b.toNat : Int)) T.data).extract 0 4).toList = bys xs := by
    rw [← hx] at *
    rw [Array.toList_extract]
    have : (Array.map (fun b : UInt8 => Value.int IntKind.u8 (b.toNat : Int)) T.data).toList = Lib.strCells T := by simp [Lib.strCells]
    rw [this]
    simp [List.extract, List.take_of_length_le (by omega : (Lib.strCells T).length ≤ 4)]
  have hxl : (bys xs).length = 4 := by rw [← hx]; exact hl
  refine ⟨by rw [bys_append, List.length_append, hxl]; rfl, .inr ⟨w1.heap.size, c, _, rfl, hH, heap_alloc_new w1 _, h1, h2, ?_, ?_⟩⟩
  · rw [Array.size_append, Array.size_append, size_zeroCells, ← Array.length_toList (xs := Array.extract _ _ _), e1, hxl]
    simp
    omega
  · rw [Array.toList_append, Array.toList_append, e1, bys_append, ← List.append_assoc]
    rw [List.take_left' (by rw [List.length_append, hxl]; rfl)]
    rfl
theorem magic_strN : ({ data := #[84, 77, 66, 49] } : ByteArray) = strN [84, 77, 66, 49] := by rfl
set_option maxRecDepth 100000 in
set_option maxHeartbeats 1000000 in
theorem layr_big (v : Value) (n : Nat) (l : List Int) (w : World) (hr : Rd w v n 1 (ints l)) (hn : 4000 < n) :
    Calls Try.prog 13 #[v] w fun e w' => e = .returned (.string ⟨#[]⟩) ∧ w = w' := by
  obtain ⟨a, c, rfl, _, _⟩ := hr.shape
  have hnI : (4000 : Int) < (n : Int) := by omega
  go_enter Try.func13, Try.ntmps13
  go_wp2
  go_ret
  exact ⟨rfl, rfl⟩
set_option maxRecDepth 100000 in
set_option maxHeartbeats 2000000 in
theorem layr_any (v : Value) (n : Nat) (l : List Int) (hl : l.length = n) (hn : n ≤ 4000) (w : World) (hr : Rd w v n 1 (ints l)) :
    Calls Try.prog 13 #[v] w (LayP l w) := by
  obtain ⟨i0, hi, hz0, hz1, hz2⟩ := info_parts info5
  obtain ⟨a, c, rfl, _, _⟩ := hr.shape
  have hnI : ¬ (4000 : Int) < (n : Int) := by omega
  have Hl := Lib.hid hl
  have hw4 := Lib.hid (word_wrap (n : Int))
  have hw4' := Lib.hid (word_nat n (by omega))
  clear hl
  go_enter Try.func13, Try.ntmps13
  go_wp2_with fail
  refine (high_any n 4 (by omega) (by decide) (by decide) _).mono ?_
  rintro e w1 ⟨rfl, B1⟩
  have h4 : (strN (be n 4)).size = 4 := by rw [strN_size, be_len]
  have O3 := Lib.hid fun c h1 h2 => head_own w1 w.heap.size B1.size (strN (be n 4)) h4 (be n 4) (strN_cells (be_lt n 4)) c h1 h2
  have hge := Lib.hid (grownCap_ge w1 8 0 5)
  have hcm := Lib.hid (grownCap_le_maxLen w1 8 0 5 (by decide))
  go_wp2_with fail
  have B2 : Below w.heap.size w _ := (B1.alloc B1.size (.cells ((#[Value.int IntKind.u8 84, Value.int IntKind.u8 77, Value.int IntKind.u8 66, Value.int IntKind.u8 49] : Array Value) ++ ((Array.map (fun b => Value.int IntKind.u8 ↑b.toNat) (strN (be n 4)).data).extract 0 4 ++ Builtin.zeroCells #[Value.int IntKind.u8 0] ((Question.appendCap 8 0 5).cut (w1.tape w1.drawn (Question.appendCap 8 0 5)) - 8))) 5)).drew
  have O4 := Lib.hid (O3.out ((Question.appendCap 8 0 5).cut (w1.tape w1.drawn (Question.appendCap 8 0 5))) hge.out hcm.out)
  have eh : [84, 77, 66, 49] ++ be n 4 = headN l := by unfold headN; rw [Hl.out]
  rw [eh] at O4
  clear h4 O3 hge hcm eh
  go_loopw [4, 5] (fun b i wr => ∃ (k : Nat) (vb : Value), k ≤ n ∧ i = .int .i64 k ∧ vb = b ∧ wr.ownsRow w.heap.size 5 1 vb (8 + k * 8) (bys (headN l ++ midN (l.take k))) ∧ Below w.heap.size w wr) (fun _ i _ => n - (intOf i).toNat)
  case atStart => exact ⟨0, _, Nat.zero_le _, rfl, rfl, by simpa [midN] using O4.out, B2⟩
  case round =>
    clear O4 B2 B1
    obtain ⟨k, vb, hk, rfl, rfl, ho, hB⟩ := hrel
    by_cases hlt : k < n
    · have hkI : (k : Int) < (n : Int) := by omega
      obtain ⟨x, hx⟩ : ∃ x, l[k]? = some x := ⟨_, List.getElem?_eq_getElem (by rw [Hl.out]; exact hlt)⟩
      obtain ⟨ab, ao, rfl⟩ := hr.addr (by omega)
      have hr' := hr.new hB
      have f0 := hr'.int Hl.out hlt
      rw [hx] at f0
      simp only [Option.getD_some] at f0
      have htk : midN (l.take (k + 1)) = midN (l.take k) ++ be (word x) 8 := by
        obtain ⟨h1, h2⟩ := List.getElem?_eq_some_iff.1 hx
        rw [List.take_succ_eq_append_getElem h1, h2, midN_snoc]
      have Htk := Lib.hid htk
      have hww := Lib.hid (word_wrap x)
      have Hwl := Lib.hid (word_lt x)
      clear hx htk
      go_wp2_with fail
      rw [hww.out]
      refine (high_any (word x) 8 Hwl.out (by decide) (by decide) _).mono ?_
      rintro e w3 ⟨rfl, B3⟩
      have ho3 := own_new ho B3
      have hB3 := hB.trans (B3.mono hB.size)
      have h8 : (strN (be (word x) 8)).size = 8 := by rw [strN_size, be_len]
      go_wp2_with (first | (at_builtin; refine Lib.wpList_append_own_string _ rfl _ _ 91 9 rfl w.heap.size 5 i0 Try.underlying91 Try.underlying9 hi hz0 hz1 hz2 vb (8 + k * 8) _ rfl ho3 (strN (be (word x) 8)) rfl (by rw [h8]; unfold maxLen; omega) (by rw [h8]; omega) hB3.size ?_; intro v' w2 o2 g2 _) | fail)
      have hB4 := hB3.grown g2 hB3.size (fun r hr => ownBlock_ge ho3 hr)
      rw [h8, strN_cells (be_lt (word x) 8), ← bys_append, List.append_assoc, ← Htk.out] at o2
      go_roundw
      case rel => exact ⟨k + 1, _, by omega, by go_num, rfl, by rw [show 8 + (k + 1) * 8 = 8 + k * 8 + 8 by omega]; exact o2, hB4⟩
      case measure => simp [intOf]; omega
    · obtain rfl : k = n := by omega
      have hkI : ¬ (k : Int) < (k : Int) := by omega
      have ht : l.take k = l := by rw [← Hl.out, List.take_length]
      rw [ht] at ho
      have hbl : (bodyN l).length = 8 + k * 8 := by rw [bodyN_len, Hl.out]
      have hcv : ∀ w', Below wr.heap.size wr w' → (convert 91 9 vb).run Try.prog w' = .ok (.string (strN (bodyN l))) w' := fun w' h => conv_own (xs := bodyN l) hbl (by omega) (own_new ho h)
      have Hcv := Lib.hid hcv
      have hsz : (strN (bodyN l)).size = 8 + k * 8 := by rw [strN_size, hbl]
      have Hsz := Lib.hid hsz
      have hnt : nats (strN (bodyN l)) = bodyN l := nats_strN (bodyN_lt l)
      have Hnt := Lib.hid hnt
      have HB := Lib.hid hB
      clear ho ht hbl hcv hsz hnt hB
      have hs1 := Hsz.out
      have hs2 : (strN (be (sumN (bodyN l)) 8)).size = 8 := by rw [strN_size, be_len]
      have kc0 := Hcv.out wr.drew ((Below.refl _ wr).drew)
      go_upto_block 99 with (fail)
      ((go_region_with
             ((first
                | (go_at_call 14
                   refine (sum14_any (strN (bodyN l)) _ (by rw [Hsz.out]; unfold maxLen; omega)).mono ?_; rintro e wz ⟨rfl, rfl⟩; rw [Hnt.out])
                | (go_at_call 15
                   refine (sum15_any (strN (bodyN l)) _ (by rw [Hsz.out]; unfold maxLen; omega)).mono ?_; rintro e wz ⟨rfl, rfl⟩; rw [Hnt.out])
                | (go_at_call 57
                   refine (high_any (sumN (bodyN l)) 8 (sumN_lt _) (by decide) (by decide) _).mono ?_; rintro e w5 ⟨rfl, B5⟩
                   have B6 : Below wr.heap.size wr w5 := ((Below.refl _ wr).drew).trans (B5.mono (by simp))
                   have kc1 := Hcv.out w5 B6)))))
      all_goals
        go_wp2
        go_ret
        exact ⟨by rw [layNs, strN_append (bodyN l)]; rfl, HB.out.trans (B6.mono HB.out.size)⟩
end Go.Proofs.Ytlcmjpligaiadaa
