/- The reference's Diff; plain facts of EventDiffs. -/
import Derived.Test.YtlcmjpligaiadaaE6
import Derived.Test.YtlcmjpligaiadaaWk
namespace Go.Proofs.Ytlcmjpligaiadaa
open Go.RowKit
/-- A reference set, or none. -/
def RefO (w : World) (p : Value) (l : List Pr) : Prop :=
  (p = .pointer none ∧ l = []) ∨ ∃ s base room v, p = .pointer (some ⟨s, 0, none⟩) ∧ RefAt w s base v room l
theorem RefO.new {w w' : World} {p : Value} {l : List Pr} (h : RefO w p l) (hB : Below w.heap.size w w') : RefO w' p l := by
  rcases h with h | ⟨s, base, room, v, e, h⟩
  · exact .inl h
  · exact .inr ⟨s, base, room, v, e, h.new hB⟩
theorem RefO.len {w : World} {p : Value} {l : List Pr} (h : RefO w p l) : l.length ≤ 4096 := by
  rcases h with ⟨_, rfl⟩ | ⟨s, base, room, v, e, h⟩
  · simp
  · exact h.len
theorem rbeyondO_any (s base room : Nat) (v pb : Value) (l m : List Pr) (w : World) (hs : RefAt w s base v room l) (hb : RefO w pb m) :
    Calls Try.prog 45 #[.pointer (some ⟨s, 0, none⟩), pb] w (BeyPost l m w) := by
  rcases hb with ⟨rfl, rfl⟩ | ⟨t, base2, room2, v2, rfl, ht⟩
  · exact rbeyond_nil s base room v l w hs
  · exact rbeyond_any s base room t base2 room2 v v2 l m w hs ht
def OutPost (L : List Ev) (w : World) (e : Ending) (w' : World) : Prop :=
  ∃ ov, e = .returned ov ∧ w'.ownsRow w.heap.size 56 3 ov L.length (evCells L) ∧ Below w.heap.size w w'
theorem OutPost.mk {L : List Ev} {w w' : World} {ov : Value} {n : Nat} (hn : n = L.length) (h : w'.ownsRow w.heap.size 56 3 ov n (evCells L)) (hB : Below w.heap.size w w') : OutPost L w (.returned ov) w' := by
  subst hn; exact ⟨ov, rfl, h, hB⟩
set_option maxRecDepth 100000 in
set_option maxHeartbeats 4000000 in
theorem rdiff_00 (w : World) :
    Calls Try.prog 47 #[.pointer none, .pointer none] w (OutPost (diffL [] []) w) := by
  go_enter Try.func47, Try.ntmps47
  go_wp2
  go_ret
  exact ⟨_, rfl, World.ownsRow_nil _ _ _ _, Below.refl _ _⟩
set_option maxRecDepth 100000 in
set_option maxHeartbeats 4000000 in
theorem rdiff_n0 (t base2 room2 : Nat) (v2 : Value) (ln : List Pr) (w : World) (ht : RefAt w t base2 v2 room2 ln) :
    Calls Try.prog 47 #[.pointer none, .pointer (some ⟨t, 0, none⟩)] w (OutPost (diffL [] ln) w) := by
  obtain ⟨i0, hi, hz0, hz1, hz2⟩ := info_parts info56
  have n4 := ht.len
  have t1 := beyP_le ln []
  have hd : (beyP ln []).map (mkEv 1) ++ (beyP [] ln).map (mkEv 2) = diffL [] ln := rfl
  rw [← hd]
  have hb1 := fun W (h : RefAt W t base2 v2 room2 ln) => rbeyondO_any t base2 room2 v2 (.pointer none) ln [] W h (.inl ⟨rfl, rfl⟩)
  unfold BeyPost at hb1
  generalize beyP ln [] = D1 at *
  rw [show beyP [] ln = [] from rfl] at *
  clear hd
  rw [List.map_nil, List.append_nil]
  have Hb1 := Lib.hid hb1
  have l1 : D1.length ≤ 4096 := by omega
  clear hb1 t1 n4
  go_enter Try.func47, Try.ntmps47
  go_wp2_with fail
  refine (Hb1.out w ht).mono ?_
  rintro e w1 ⟨dv, rfl, oD1, B1⟩
  have oo : w1.ownsRow w.heap.size 56 3 (.slice none 0 0) 0 [] := World.ownsRow_nil _ _ _ _
  obtain ⟨sa, sc, rfl, v1, v2⟩ := (Rd.of_own oD1).shape
  obtain ⟨n, hn⟩ : ∃ n, n = D1.length := ⟨_, rfl⟩
  have Hn := Lib.hid hn
  rw [← hn] at oD1 v1 ⊢
  have hn4 : n ≤ 4096 := by have := Hn.out; omega
  clear hn
  go_wp2
  go_loopw [5, 7] (fun o i wr => ∃ (k : Nat) (ov : Value), k ≤ n ∧ i = .int .i64 k ∧ ov = o ∧ wr.ownsRow w.heap.size 56 3 ov (([] : List Ev) ++ (D1.take k).map (mkEv 1)).length (evCells (([] : List Ev) ++ (D1.take k).map (mkEv 1))) ∧ wr.ownsRow w.heap.size 42 2 (.slice sa n sc) n (pairCells D1) ∧ Below w.heap.size w wr) (fun _ i _ => n - (intOf i).toNat)
  case atStart => exact ⟨0, _, Nat.zero_le _, rfl, rfl, by simpa using oo, oD1, B1⟩
  case round =>
    clear oo oD1 B1
    obtain ⟨k, ov, hk, rfl, rfl, oo, oD, BH⟩ := hrel
    have hwr := BH.size
    by_cases hlt : k < n
    · have hkI : (k : Int) < (n : Int) := by omega
      obtain ⟨p, hp⟩ : ∃ p, D1[k]? = some p := ⟨_, List.getElem?_eq_getElem (by rw [← Hn.out]; exact hlt)⟩
      obtain ⟨ab, cc, e1⟩ := own_shape oD (by omega)
      simp only [Value.slice.injEq, true_and] at e1
      obtain ⟨rfl, rfl⟩ := e1
      have hrl := Rd.of_own oD
      obtain ⟨f0, f1⟩ := hrl.pair Hn.out.symm hlt hp
      have hsn : ([] : List Ev) ++ (D1.take (k + 1)).map (mkEv 1) = (([] : List Ev) ++ (D1.take k).map (mkEv 1)) ++ [mkEv 1 p] := by rw [take_at hp]; simp
      have Hsn := Lib.hid hsn
      have hTl : (([] : List Ev) ++ (D1.take k).map (mkEv 1)).length ≤ 4096 + k := by simp; omega
      obtain ⟨T, hT⟩ : ∃ T, T = (([] : List Ev) ++ (D1.take k).map (mkEv 1)).length := ⟨_, rfl⟩
      rw [← hT] at oo hTl
      have HT := Lib.hid hT
      obtain ⟨p1, p2⟩ := p
      simp only [Nat.zero_add] at f0 f1
      have habl : ab < wr.heap.size := hrl.block_lt (by omega)
      have hkn0 : (0 : Int) ≤ (k : Int) := by omega
      have Hp := Lib.hid hp
      clear hp hsn hT
      go_wp2
      go_region_held3 (fun wx => wx.cell? ⟨ab, k * 2, none⟩ = some (.int .i64 p1) ∧ wx.cell? ⟨ab, k * 2 + 1, none⟩ = some (.int .i64 p2))
        (first | go_keep | exact ⟨k1, k2⟩)
        ((refine step_append_lies _ (by rfl) _ _ _ (by rfl) w.heap.size 56 i0 _ 3 24 Try.underlying53 hi hz0 hz1 hz2 rfl (by omega) _ T (evCells (([] : List Ev) ++ (D1.take k).map (mkEv 1))) (by rfl) ((oo.alloc _).drew) ⟨wr.heap.size, 0, none⟩ 1 1 [.int .i64 1, .int .i64 p1, .int .i64 p2] (by rfl) (by rfl) (World.news_of_block (cs := #[.int .i64 1, .int .i64 p1, .int .i64 p2]) (t := 56) (fr := (0, 0)) (heap_alloc_new wr _)) (by simp [Value.oneCell']) (by omega) (by unfold maxLen; omega) (by omega) (by simp; omega) (wr.heap.size + 1) (by simp) ?_
          intro gg cap w6 o6 g6 hat6 hlt6
          have oD6 := own_grown ((oD.alloc (.cells #[.int .i64 1, .int .i64 p1, .int .i64 p2] 56)).drew) ((oo.alloc _).drew) (by decide) g6
          obtain ⟨k1, k2⟩ := (Rd.of_own oD6).pair Hn.out.symm hlt Hp.out
          simp only [Nat.zero_add] at k1 k2))
      have B6 : Below w.heap.size w w6 := ((BH.alloc hwr (.cells #[.int .i64 1, .int .i64 p1, .int .i64 p2] 56)).drew).grown g6 (by simp; omega) (fun r hr => ownBlock_ge oo hr)
      go_wp2
      go_roundw
      case rel => exact ⟨k + 1, _, by omega, by go_num, rfl, by rw [Hsn.out, List.length_append, ev_append, ← HT.out]; exact o6, oD6, B6⟩
      case measure => simp [intOf]; omega
    · obtain rfl : k = n := by omega
      have hkI : ¬ (k : Int) < (k : Int) := by omega
      have ht : D1.take k = D1 := by rw [Hn.out, List.take_length]
      rw [ht] at oo
      clear ht oD
      rw [List.nil_append] at oo
      have HO := Lib.hid oo
      clear oo
      go_wp2
      go_ret
      exact OutPost.mk rfl HO.out BH
set_option maxRecDepth 100000 in
set_option maxHeartbeats 4000000 in
theorem rdiff_0o (s base room : Nat) (v : Value) (lo : List Pr) (w : World) (hs : RefAt w s base v room lo) :
    Calls Try.prog 47 #[.pointer (some ⟨s, 0, none⟩), .pointer none] w (OutPost (diffL lo []) w) := by
  obtain ⟨i0, hi, hz0, hz1, hz2⟩ := info_parts info56
  have o4 := hs.len
  have t2 := beyP_le lo []
  have hd : (beyP [] lo).map (mkEv 1) ++ (beyP lo []).map (mkEv 2) = diffL lo [] := rfl
  rw [← hd]
  have hb2 := fun W (h : RefAt W s base v room lo) => rbeyondO_any s base room v (.pointer none) lo [] W h (.inl ⟨rfl, rfl⟩)
  unfold BeyPost at hb2
  rw [show beyP [] lo = [] from rfl] at *
  generalize beyP lo [] = D2 at *
  clear hd
  rw [List.map_nil, List.nil_append]
  have Hb2 := Lib.hid hb2
  have l2 : D2.length ≤ 4096 := by omega
  clear hb2 t2 o4
  go_enter Try.func47, Try.ntmps47
  go_wp2_with fail
  refine (Hb2.out w hs).mono ?_
  rintro e w1 ⟨dv, rfl, oD1, B1⟩
  have oo : w1.ownsRow w.heap.size 56 3 (.slice none 0 0) 0 [] := World.ownsRow_nil _ _ _ _
  obtain ⟨sa, sc, rfl, v1, v2⟩ := (Rd.of_own oD1).shape
  obtain ⟨n, hn⟩ : ∃ n, n = D2.length := ⟨_, rfl⟩
  have Hn := Lib.hid hn
  rw [← hn] at oD1 v1 ⊢
  have hn4 : n ≤ 4096 := by have := Hn.out; omega
  clear hn
  go_wp2
  go_loopw [5, 9] (fun o i wr => ∃ (k : Nat) (ov : Value), k ≤ n ∧ i = .int .i64 k ∧ ov = o ∧ wr.ownsRow w.heap.size 56 3 ov (([] : List Ev) ++ (D2.take k).map (mkEv 2)).length (evCells (([] : List Ev) ++ (D2.take k).map (mkEv 2))) ∧ wr.ownsRow w.heap.size 42 2 (.slice sa n sc) n (pairCells D2) ∧ Below w.heap.size w wr) (fun _ i _ => n - (intOf i).toNat)
  case atStart => exact ⟨0, _, Nat.zero_le _, rfl, rfl, by simpa using oo, oD1, B1⟩
  case round =>
    clear oo oD1 B1
    obtain ⟨k, ov, hk, rfl, rfl, oo, oD, BH⟩ := hrel
    have hwr := BH.size
    by_cases hlt : k < n
    · have hkI : (k : Int) < (n : Int) := by omega
      obtain ⟨p, hp⟩ : ∃ p, D2[k]? = some p := ⟨_, List.getElem?_eq_getElem (by rw [← Hn.out]; exact hlt)⟩
      obtain ⟨ab, cc, e1⟩ := own_shape oD (by omega)
      simp only [Value.slice.injEq, true_and] at e1
      obtain ⟨rfl, rfl⟩ := e1
      have hrl := Rd.of_own oD
      obtain ⟨f0, f1⟩ := hrl.pair Hn.out.symm hlt hp
      have hsn : ([] : List Ev) ++ (D2.take (k + 1)).map (mkEv 2) = (([] : List Ev) ++ (D2.take k).map (mkEv 2)) ++ [mkEv 2 p] := by rw [take_at hp]; simp
      have Hsn := Lib.hid hsn
      have hTl : (([] : List Ev) ++ (D2.take k).map (mkEv 2)).length ≤ 4096 + k := by simp; omega
      obtain ⟨T, hT⟩ : ∃ T, T = (([] : List Ev) ++ (D2.take k).map (mkEv 2)).length := ⟨_, rfl⟩
      rw [← hT] at oo hTl
      have HT := Lib.hid hT
      obtain ⟨p1, p2⟩ := p
      simp only [Nat.zero_add] at f0 f1
      have habl : ab < wr.heap.size := hrl.block_lt (by omega)
      have hkn0 : (0 : Int) ≤ (k : Int) := by omega
      have Hp := Lib.hid hp
      clear hp hsn hT
      go_wp2
      go_region_held3 (fun wx => wx.cell? ⟨ab, k * 2, none⟩ = some (.int .i64 p1) ∧ wx.cell? ⟨ab, k * 2 + 1, none⟩ = some (.int .i64 p2))
        (first | go_keep | exact ⟨k1, k2⟩)
        ((refine step_append_lies _ (by rfl) _ _ _ (by rfl) w.heap.size 56 i0 _ 3 24 Try.underlying53 hi hz0 hz1 hz2 rfl (by omega) _ T (evCells (([] : List Ev) ++ (D2.take k).map (mkEv 2))) (by rfl) ((oo.alloc _).drew) ⟨wr.heap.size, 0, none⟩ 1 1 [.int .i64 2, .int .i64 p1, .int .i64 p2] (by rfl) (by rfl) (World.news_of_block (cs := #[.int .i64 2, .int .i64 p1, .int .i64 p2]) (t := 56) (fr := (0, 0)) (heap_alloc_new wr _)) (by simp [Value.oneCell']) (by omega) (by unfold maxLen; omega) (by omega) (by simp; omega) (wr.heap.size + 1) (by simp) ?_
          intro gg cap w6 o6 g6 hat6 hlt6
          have oD6 := own_grown ((oD.alloc (.cells #[.int .i64 2, .int .i64 p1, .int .i64 p2] 56)).drew) ((oo.alloc _).drew) (by decide) g6
          obtain ⟨k1, k2⟩ := (Rd.of_own oD6).pair Hn.out.symm hlt Hp.out
          simp only [Nat.zero_add] at k1 k2))
      have B6 : Below w.heap.size w w6 := ((BH.alloc hwr (.cells #[.int .i64 2, .int .i64 p1, .int .i64 p2] 56)).drew).grown g6 (by simp; omega) (fun r hr => ownBlock_ge oo hr)
      go_wp2
      go_roundw
      case rel => exact ⟨k + 1, _, by omega, by go_num, rfl, by rw [Hsn.out, List.length_append, ev_append, ← HT.out]; exact o6, oD6, B6⟩
      case measure => simp [intOf]; omega
    · obtain rfl : k = n := by omega
      have hkI : ¬ (k : Int) < (k : Int) := by omega
      have ht : D2.take k = D2 := by rw [Hn.out, List.take_length]
      rw [ht] at oo
      clear ht oD
      rw [List.nil_append] at oo
      have HO := Lib.hid oo
      clear oo
      go_wp2
      go_ret
      exact OutPost.mk rfl HO.out BH
set_option maxRecDepth 100000 in
set_option maxHeartbeats 4000000 in
theorem rdiff_no (t base2 room2 : Nat) (v2 : Value) (s base room : Nat) (v : Value) (ln : List Pr) (lo : List Pr) (w : World) (ht : RefAt w t base2 v2 room2 ln) (hs : RefAt w s base v room lo) :
    Calls Try.prog 47 #[.pointer (some ⟨s, 0, none⟩), .pointer (some ⟨t, 0, none⟩)] w (OutPost (diffL lo ln) w) := by
  obtain ⟨i0, hi, hz0, hz1, hz2⟩ := info_parts info56
  have n4 := ht.len
  have o4 := hs.len
  have t1 := beyP_le ln lo
  have t2 := beyP_le lo ln
  have hd : (beyP ln lo).map (mkEv 1) ++ (beyP lo ln).map (mkEv 2) = diffL lo ln := rfl
  rw [← hd]
  have hb1 := fun W (h : RefAt W t base2 v2 room2 ln) (h2 : RefAt W s base v room lo) => rbeyondO_any t base2 room2 v2 (.pointer (some ⟨s, 0, none⟩)) ln lo W h (.inr ⟨_, _, _, _, rfl, h2⟩)
  unfold BeyPost at hb1
  have hb2 := fun W (h : RefAt W s base v room lo) (h2 : RefAt W t base2 v2 room2 ln) => rbeyondO_any s base room v (.pointer (some ⟨t, 0, none⟩)) lo ln W h (.inr ⟨_, _, _, _, rfl, h2⟩)
  unfold BeyPost at hb2
  generalize beyP ln lo = D1 at *
  generalize beyP lo ln = D2 at *
  clear hd
  have Hb1 := Lib.hid hb1
  have l1 : D1.length ≤ 4096 := by omega
  clear hb1 t1 n4
  have Hb2 := Lib.hid hb2
  have l2 : D2.length ≤ 4096 := by omega
  clear hb2 t2 o4
  go_enter Try.func47, Try.ntmps47
  go_wp2_with fail
  refine (Hb1.out w ht hs).mono ?_
  rintro e w1 ⟨dv, rfl, oD1, B1⟩
  have oo : w1.ownsRow w.heap.size 56 3 (.slice none 0 0) 0 [] := World.ownsRow_nil _ _ _ _
  obtain ⟨sa, sc, rfl, v1, v2⟩ := (Rd.of_own oD1).shape
  obtain ⟨n, hn⟩ : ∃ n, n = D1.length := ⟨_, rfl⟩
  have Hn := Lib.hid hn
  rw [← hn] at oD1 v1 ⊢
  have hn4 : n ≤ 4096 := by have := Hn.out; omega
  clear hn
  go_wp2
  go_loopw [5, 7] (fun o i wr => ∃ (k : Nat) (ov : Value), k ≤ n ∧ i = .int .i64 k ∧ ov = o ∧ wr.ownsRow w.heap.size 56 3 ov (([] : List Ev) ++ (D1.take k).map (mkEv 1)).length (evCells (([] : List Ev) ++ (D1.take k).map (mkEv 1))) ∧ wr.ownsRow w.heap.size 42 2 (.slice sa n sc) n (pairCells D1) ∧ Below w.heap.size w wr) (fun _ i _ => n - (intOf i).toNat)
  case atStart => exact ⟨0, _, Nat.zero_le _, rfl, rfl, by simpa using oo, oD1, B1⟩
  case round =>
    clear oo oD1 B1
    obtain ⟨k, ov, hk, rfl, rfl, oo, oD, BH⟩ := hrel
    have hwr := BH.size
    by_cases hlt : k < n
    · have hkI : (k : Int) < (n : Int) := by omega
      obtain ⟨p, hp⟩ : ∃ p, D1[k]? = some p := ⟨_, List.getElem?_eq_getElem (by rw [← Hn.out]; exact hlt)⟩
      obtain ⟨ab, cc, e1⟩ := own_shape oD (by omega)
      simp only [Value.slice.injEq, true_and] at e1
      obtain ⟨rfl, rfl⟩ := e1
      have hrl := Rd.of_own oD
      obtain ⟨f0, f1⟩ := hrl.pair Hn.out.symm hlt hp
      have hsn : ([] : List Ev) ++ (D1.take (k + 1)).map (mkEv 1) = (([] : List Ev) ++ (D1.take k).map (mkEv 1)) ++ [mkEv 1 p] := by rw [take_at hp]; simp
      have Hsn := Lib.hid hsn
      have hTl : (([] : List Ev) ++ (D1.take k).map (mkEv 1)).length ≤ 4096 + k := by simp; omega
      obtain ⟨T, hT⟩ : ∃ T, T = (([] : List Ev) ++ (D1.take k).map (mkEv 1)).length := ⟨_, rfl⟩
      rw [← hT] at oo hTl
      have HT := Lib.hid hT
      obtain ⟨p1, p2⟩ := p
      simp only [Nat.zero_add] at f0 f1
      have habl : ab < wr.heap.size := hrl.block_lt (by omega)
      have hkn0 : (0 : Int) ≤ (k : Int) := by omega
      have Hp := Lib.hid hp
      clear hp hsn hT
      go_wp2
      go_region_held3 (fun wx => wx.cell? ⟨ab, k * 2, none⟩ = some (.int .i64 p1) ∧ wx.cell? ⟨ab, k * 2 + 1, none⟩ = some (.int .i64 p2))
        (first | go_keep | exact ⟨k1, k2⟩)
        ((refine step_append_lies _ (by rfl) _ _ _ (by rfl) w.heap.size 56 i0 _ 3 24 Try.underlying53 hi hz0 hz1 hz2 rfl (by omega) _ T (evCells (([] : List Ev) ++ (D1.take k).map (mkEv 1))) (by rfl) ((oo.alloc _).drew) ⟨wr.heap.size, 0, none⟩ 1 1 [.int .i64 1, .int .i64 p1, .int .i64 p2] (by rfl) (by rfl) (World.news_of_block (cs := #[.int .i64 1, .int .i64 p1, .int .i64 p2]) (t := 56) (fr := (0, 0)) (heap_alloc_new wr _)) (by simp [Value.oneCell']) (by omega) (by unfold maxLen; omega) (by omega) (by simp; omega) (wr.heap.size + 1) (by simp) ?_
          intro gg cap w6 o6 g6 hat6 hlt6
          have oD6 := own_grown ((oD.alloc (.cells #[.int .i64 1, .int .i64 p1, .int .i64 p2] 56)).drew) ((oo.alloc _).drew) (by decide) g6
          obtain ⟨k1, k2⟩ := (Rd.of_own oD6).pair Hn.out.symm hlt Hp.out
          simp only [Nat.zero_add] at k1 k2))
      have B6 : Below w.heap.size w w6 := ((BH.alloc hwr (.cells #[.int .i64 1, .int .i64 p1, .int .i64 p2] 56)).drew).grown g6 (by simp; omega) (fun r hr => ownBlock_ge oo hr)
      go_wp2
      go_roundw
      case rel => exact ⟨k + 1, _, by omega, by go_num, rfl, by rw [Hsn.out, List.length_append, ev_append, ← HT.out]; exact o6, oD6, B6⟩
      case measure => simp [intOf]; omega
    · obtain rfl : k = n := by omega
      have hkI : ¬ (k : Int) < (k : Int) := by omega
      have ht : D1.take k = D1 := by rw [Hn.out, List.take_length]
      rw [ht] at oo
      clear ht oD
      rw [List.nil_append] at oo
      have hs2 := hs.mod (Mod.of_below BH (S := fun k => w.heap.size ≤ k) (fun k h _ => h)) (fun j h1 h2 => by have := hs.lt h1; omega)
      have ht2 := ht.mod (Mod.of_below BH (S := fun k => w.heap.size ≤ k) (fun k h _ => h)) (fun j h1 h2 => by have := ht.lt h1; omega)
      clear Hn hkI hk hlt hn4 v1
      go_wp2_with fail
      refine (Hb2.out wr hs2 ht2).mono ?_
      rintro e w2 ⟨dv2, rfl, oD2', B2'⟩
      have oD2 := own_base oD2' hwr
      have B2 := BH.trans (B2'.mono hwr)
      have oo := own_new oo B2'
      clear oD2' B2' BH hs2 ht2
      obtain ⟨sa, sc, rfl, v1, v2⟩ := (Rd.of_own oD2).shape
      obtain ⟨n, hn⟩ : ∃ n, n = D2.length := ⟨_, rfl⟩
      have Hn := Lib.hid hn
      rw [← hn] at oD2 v1 ⊢
      have hn4 : n ≤ 4096 := by have := Hn.out; omega
      clear hn
      go_wp2
      go_loopw [5, 9] (fun o i wr => ∃ (k : Nat) (ov : Value), k ≤ n ∧ i = .int .i64 k ∧ ov = o ∧ wr.ownsRow w.heap.size 56 3 ov (D1.map (mkEv 1) ++ (D2.take k).map (mkEv 2)).length (evCells (D1.map (mkEv 1) ++ (D2.take k).map (mkEv 2))) ∧ wr.ownsRow w.heap.size 42 2 (.slice sa n sc) n (pairCells D2) ∧ Below w.heap.size w wr) (fun _ i _ => n - (intOf i).toNat)
      case atStart => exact ⟨0, _, Nat.zero_le _, rfl, rfl, by simpa using oo, oD2, B2⟩
      case round =>
        clear oo oD2 B2
        obtain ⟨k, ov, hk, rfl, rfl, oo, oD, BH⟩ := hrel
        have hwr := BH.size
        by_cases hlt : k < n
        · have hkI : (k : Int) < (n : Int) := by omega
          obtain ⟨p, hp⟩ : ∃ p, D2[k]? = some p := ⟨_, List.getElem?_eq_getElem (by rw [← Hn.out]; exact hlt)⟩
          obtain ⟨ab, cc, e1⟩ := own_shape oD (by omega)
          simp only [Value.slice.injEq, true_and] at e1
          obtain ⟨rfl, rfl⟩ := e1
          have hrl := Rd.of_own oD
          obtain ⟨f0, f1⟩ := hrl.pair Hn.out.symm hlt hp
          have hsn : D1.map (mkEv 1) ++ (D2.take (k + 1)).map (mkEv 2) = (D1.map (mkEv 1) ++ (D2.take k).map (mkEv 2)) ++ [mkEv 2 p] := by rw [take_at hp]; simp
          have Hsn := Lib.hid hsn
          have hTl : (D1.map (mkEv 1) ++ (D2.take k).map (mkEv 2)).length ≤ 4096 + k := by simp; omega
          obtain ⟨T, hT⟩ : ∃ T, T = (D1.map (mkEv 1) ++ (D2.take k).map (mkEv 2)).length := ⟨_, rfl⟩
          rw [← hT] at oo hTl
          have HT := Lib.hid hT
          obtain ⟨p1, p2⟩ := p
          simp only [Nat.zero_add] at f0 f1
          have habl : ab < wr.heap.size := hrl.block_lt (by omega)
          have hkn0 : (0 : Int) ≤ (k : Int) := by omega
          have Hp := Lib.hid hp
          clear hp hsn hT
          go_wp2
          go_region_held3 (fun wx => wx.cell? ⟨ab, k * 2, none⟩ = some (.int .i64 p1) ∧ wx.cell? ⟨ab, k * 2 + 1, none⟩ = some (.int .i64 p2))
            (first | go_keep | exact ⟨k1, k2⟩)
            ((refine step_append_lies _ (by rfl) _ _ _ (by rfl) w.heap.size 56 i0 _ 3 24 Try.underlying53 hi hz0 hz1 hz2 rfl (by omega) _ T (evCells (D1.map (mkEv 1) ++ (D2.take k).map (mkEv 2))) (by rfl) ((oo.alloc _).drew) ⟨wr.heap.size, 0, none⟩ 1 1 [.int .i64 2, .int .i64 p1, .int .i64 p2] (by rfl) (by rfl) (World.news_of_block (cs := #[.int .i64 2, .int .i64 p1, .int .i64 p2]) (t := 56) (fr := (0, 0)) (heap_alloc_new wr _)) (by simp [Value.oneCell']) (by omega) (by unfold maxLen; omega) (by omega) (by simp; omega) (wr.heap.size + 1) (by simp) ?_
              intro gg cap w6 o6 g6 hat6 hlt6
              have oD6 := own_grown ((oD.alloc (.cells #[.int .i64 2, .int .i64 p1, .int .i64 p2] 56)).drew) ((oo.alloc _).drew) (by decide) g6
              obtain ⟨k1, k2⟩ := (Rd.of_own oD6).pair Hn.out.symm hlt Hp.out
              simp only [Nat.zero_add] at k1 k2))
          have B6 : Below w.heap.size w w6 := ((BH.alloc hwr (.cells #[.int .i64 2, .int .i64 p1, .int .i64 p2] 56)).drew).grown g6 (by simp; omega) (fun r hr => ownBlock_ge oo hr)
          go_wp2
          go_roundw
          case rel => exact ⟨k + 1, _, by omega, by go_num, rfl, by rw [Hsn.out, List.length_append, ev_append, ← HT.out]; exact o6, oD6, B6⟩
          case measure => simp [intOf]; omega
        · obtain rfl : k = n := by omega
          have hkI : ¬ (k : Int) < (k : Int) := by omega
          have ht : D2.take k = D2 := by rw [Hn.out, List.take_length]
          rw [ht] at oo
          clear ht oD
          have HO := Lib.hid oo
          clear oo
          go_wp2
          go_ret
          exact OutPost.mk rfl HO.out BH
theorem rdiff_any (po pn : Value) (lo ln : List Pr) (w : World) (ho : RefO w po lo) (hn : RefO w pn ln) : Calls Try.prog 47 #[po, pn] w (OutPost (diffL lo ln) w) := by
  rcases ho with ⟨rfl, rfl⟩ | ⟨s, base, room, v, rfl, hs⟩
  · rcases hn with ⟨rfl, rfl⟩ | ⟨t, base2, room2, v2, rfl, ht⟩
    · exact rdiff_00 w
    · exact rdiff_n0 t base2 room2 v2 ln w ht
  · rcases hn with ⟨rfl, rfl⟩ | ⟨t, base2, room2, v2, rfl, ht⟩
    · exact rdiff_0o s base room v lo w hs
    · exact rdiff_no t base2 room2 v2 s base room v ln lo w ht hs
end Go.Proofs.Ytlcmjpligaiadaa
