/- event.Diff; awake; pick. -/
import Derived.Test.YtlcmjpligaiadaaE5
namespace Go.Proofs.Ytlcmjpligaiadaa
open Go.RowKit
set_option maxRecDepth 100000 in
set_option maxHeartbeats 2000000 in
theorem diff_any (po pn : Value) (lo ln : List Pr) (w : World) (ho : SetO w w.heap.size po lo) (hn : SetO w w.heap.size pn ln) (h1 : lo.length ≤ 4096) (h2 : ln.length ≤ 4096) :
    Calls Try.prog 46 #[po, pn] w (AllPost (diffL lo ln) w) := by
  have t1 := beyP_le ln lo
  have t2 := beyP_le lo ln
  have ht := fun W O ov (hW : w.heap.size ≤ W.heap.size) (hB : Below w.heap.size w W) (hO : O.length ≤ 8192) (hb : Blk W w.heap.size 53 [ov]) (hw : W.ownsRow w.heap.size 56 3 ov O.length (evCells O)) =>
    tell_any 1 pn po ln lo w.heap.size w.heap.size ov O W hW (Nat.le_refl _) (hn.below (Nat.le_refl _) hB) (ho.below (Nat.le_refl _) hB) hO hb hw
  have ht2 := fun W O ov (hW : w.heap.size ≤ W.heap.size) (hB : Below w.heap.size w W) (hO : O.length ≤ 8192) (hb : Blk W w.heap.size 53 [ov]) (hw : W.ownsRow w.heap.size 56 3 ov O.length (evCells O)) =>
    tell_any 2 po pn lo ln w.heap.size w.heap.size ov O W hW (Nat.le_refl _) (ho.below (Nat.le_refl _) hB) (hn.below (Nat.le_refl _) hB) hO hb hw
  have B0 : Below w.heap.size w (w.alloc (.cells #[.slice none 0 0] 53)) := (Below.refl _ w).alloc (Nat.le_refl _) _
  have b0 : Blk (w.alloc (.cells #[.slice none 0 0] 53)) w.heap.size 53 [.slice none 0 0] := Blk.new w 53 [_]
  have Ht := Lib.hid ht
  have Ht2 := Lib.hid ht2
  clear ht ht2 ho hn
  go_enter Try.func46, Try.ntmps46
  go_wp2_with fail
  generalize w.alloc (.cells #[.slice none 0 0] 53) = W0 at B0 b0 ⊢
  refine (Ht.out W0 [] _ B0.size B0 (by simp) b0 (World.ownsRow_nil _ _ _ _)).mono ?_
  rintro e w1 ⟨rfl, o1, k1, own1, B1⟩
  rw [List.nil_append] at own1
  have B01 := B0.trans B1
  go_wp2_with fail
  refine (Ht2.out w1 ((beyP ln lo).map (mkEv 1)) _ B01.size B01 (by simp; omega) k1 own1).mono ?_
  rintro e w2 ⟨rfl, o2, k2, own2, B2⟩
  have B02 := B01.trans B2
  have hd : (beyP ln lo).map (mkEv 1) ++ (beyP lo ln).map (mkEv 2) = diffL lo ln := rfl
  rw [hd] at own2
  clear hd own1 k1
  obtain ⟨n, hn⟩ : ∃ n, n = (diffL lo ln).length := ⟨_, rfl⟩
  rw [← hn] at own2
  obtain ⟨oa, oc, rfl, v1, v2⟩ := (Rd.of_own own2).shape
  have c0 := k2.cell 0
  simp only [List.getElem?_cons_zero] at c0
  have Hn := Lib.hid hn
  have Ho := Lib.hid own2
  clear hn own2
  go_wp2_with fail
  refine (clip67_any _ _ _ _ v1 v2).mono ?_
  rintro e w3 ⟨rfl, rfl⟩
  go_wp2
  go_ret
  exact ⟨oa, oc, by rw [← Hn.out]; rfl, by rw [← Hn.out]; exact Ho.out, B02⟩
theorem pick29_any (c n : Int) (w : World) (hc : -9223372036854775808 ≤ c) (hc2 : c ≤ 9223372036854775807) (hn : 1 ≤ n) (hn2 : n ≤ 65536) :
    Calls Try.prog 29 #[.int .i64 c, .int .i64 n] w fun e w' => e = .returned (.int .i64 (pickN c n)) ∧ w = w' := by
  by_cases h : c < 0
  · go_enter Try.func29, Try.ntmps29
    go_wp2
    go_ret
    exact ⟨ret_int (by simp [pickN, h]), rfl⟩
  · go_enter Try.func29, Try.ntmps29
    go_wp2
    go_ret
    exact ⟨ret_int (by have : ¬ c < 0 := by omega
                       simp [pickN, this, Int.tmod_eq_emod_of_nonneg h]), rfl⟩
theorem ev_blk {w : World} {b : Nat} {l : List Ev} (h : Blk w b 56 (evCells l)) (hm : l.length ≤ 1000) : Rd w (.slice (some ⟨b, 0, none⟩) l.length l.length) l.length 3 (evCells l) :=
  blk_rd h (ev_len l) (by unfold maxLen; omega)
set_option maxRecDepth 100000 in
set_option maxHeartbeats 4000000 in
theorem awake19_any (w : World) : Calls Try.prog 28 #[] w fun e w' => e = .returned (.bool true) ∧ Below w.heap.size w w' := by
  go_enter Try.func28, Try.ntmps28
  go_wp2_with fail
  refine (qnew_ok 2 w (by decide) (by decide)).mono ?_
  rintro e w1 ⟨q, g, rfl, Q1, B1, hq, hg⟩
  have hs1 := B1.size
  have hqlt := Q1.head.lt
  have hglt := Q1.glt
  go_wp2_with fail
  have b1 : Blk (w1.alloc (.cells #[.int .i64 1, .int .i64 0, .int .i64 0, .int .i64 2, .int .i64 0, .int .i64 0] 56)) w1.heap.size 56 (evCells [⟨1, 0, 0⟩, ⟨2, 0, 0⟩]) := Blk.new w1 56 [_, _, _, _, _, _]
  have Q2 := Q1.new (Below.alloc (Below.refl _ w1) (Nat.le_refl _) (.cells #[.int .i64 1, .int .i64 0, .int .i64 0, .int .i64 2, .int .i64 0, .int .i64 0] 56))
  have B2 := B1.alloc hs1 (.cells #[.int .i64 1, .int .i64 0, .int .i64 0, .int .i64 2, .int .i64 0, .int .i64 0] 56)
  refine (push_ok q g 2 0 0 [] _ 2 [⟨1, 0, 0⟩, ⟨2, 0, 0⟩] rfl _ Q2 (ev_blk b1 (by simp)) (by omega) (fun _ b hb => by simp [Value.ownBlock] at hb; omega)).mono ?_
  rintro e w2 ⟨rfl, Q3, M3⟩
  have B3 := B2.trans (M3.below (Nat.le_trans hs1 (by simp)) (fun j h1 h2 => by omega))
  have hs3 := B3.size
  go_wp2_with fail
  have b3 : Blk (w2.alloc (.cells #[.int .i64 3, .int .i64 0, .int .i64 0] 56)) w2.heap.size 56 (evCells [⟨3, 0, 0⟩]) := Blk.new w2 56 [_, _, _]
  have Q4 := Q3.new (Below.alloc (Below.refl _ w2) (Nat.le_refl _) (.cells #[.int .i64 3, .int .i64 0, .int .i64 0] 56))
  have B4 := B3.alloc hs3 (.cells #[.int .i64 3, .int .i64 0, .int .i64 0] 56)
  refine (push_no q g 2 0 2 [⟨1, 0, 0⟩, ⟨2, 0, 0⟩] _ 1 [⟨3, 0, 0⟩] _ Q4 (ev_blk b3 (by simp)) (by omega)).mono ?_
  rintro e w3 ⟨rfl, B5'⟩
  have Q5 := Q4.new B5'
  have B5 := B4.trans (B5'.mono B4.size)
  have hs5 := B5.size
  go_wp2_with fail
  refine (take_some q g 2 0 1 ⟨1, 0, 0⟩ [⟨2, 0, 0⟩] _ Q5).mono ?_
  rintro e w4 ⟨rfl, Q6, M6⟩
  have B6 := B5.trans (M6.below hs5 (fun j h1 h2 => by omega))
  have hs6 := B6.size
  unfold encVal
  go_wp2_with fail
  obtain ⟨W7, hW7⟩ : ∃ W7, w4.alloc (.cells #[.int .i64 1, .int .i64 0, .int .i64 0] 56) = W7 := ⟨_, rfl⟩
  have B7' : Below w4.heap.size w4 W7 := by rw [← hW7]; exact (Below.refl _ w4).alloc (Nat.le_refl _) _
  have x7 : Blk W7 w4.heap.size 56 [.int .i64 1, .int .i64 0, .int .i64 0] := by rw [← hW7]; exact Blk.new w4 56 [_, _, _]
  rw [hW7]
  clear hW7
  have Q7 := Q6.new B7'
  have B7 := B6.trans (B7'.mono hs6)
  have hs7 := B7.size
  refine (pnew_ok 4 4 rfl w.heap.size W7 (by decide) (by decide)).mono ?_
  rintro e w8 ⟨rfl, S8, B8'⟩
  have Q8 := Q7.new B8'
  have x8 := x7.below B8' x7.lt
  have B8 := B7.trans (B8'.mono hs7)
  have hs8 := B8.size
  go_wp2_with fail
  refine (put_any W7.heap.size w.heap.size 4 _ [] (1, 2) _ hs8 S8).mono ?_
  rintro e w9 ⟨he, v9, S9, m9, q9⟩
  rw [show canPut 4 [] (1, 2) = true from by decide, show putE 4 [] (1, 2) = 0 from by decide] at he
  rw [show putS 4 [] (1, 2) = [(1, 2)] from by decide] at S9
  subst he
  have hl7 := Q7.head.lt
  have hg7 := Q7.glt
  have hx7 := x7.lt
  have F8 : ∀ j, Foot W7.heap.size (.slice none 0 0) j → j = W7.heap.size := fun j h => foot_nil h
  have Q9 := Q8.mod m9 (fun h => by have := F8 _ h; omega) (fun h => by have := F8 _ h; omega)
  have x9 := x8.mod m9 (fun h => by have := F8 _ h; omega)
  have B9 := B8.trans (m9.below hs8 (fun j h1 h2 => by have := F8 _ h2; omega))
  have hs9 := B9.size
  have d0 := x9.cell 0
  simp only [List.getElem?_cons_zero] at d0
  go_wp2_with fail
  refine (free_any q g 2 _ 1 _ _ Q9).mono ?_
  rintro e w10 ⟨rfl, d, rfl⟩
  have B10' : Below w9.heap.size w9 (w9.drewN d) := Below.drewN' (Below.refl _ _) d
  have S10 := S9.new B10'
  have B10 := B9.trans (B10'.mono hs9)
  go_wp2_with fail
  refine (diff_any (.pointer none) (.pointer (some ⟨W7.heap.size, 0, none⟩)) [] [(1, 2)] _ (.inl ⟨rfl, rfl⟩) (.inr ⟨_, _, _, _, rfl, S10, fun j h => S10.lt h⟩) (by simp) (by simp)).mono ?_
  rintro e w11 ⟨oa, oc, he, o11, B11'⟩
  rw [show diffL [] [(1, 2)] = [⟨1, 1, 2⟩] from by decide] at he o11
  subst he
  have B11 := B10.trans (B11'.mono B10.size)
  obtain ⟨ao, cap, ev, _, _, D11⟩ := own_clip o11
  obtain ⟨rfl, -, -⟩ := Value.slice.inj ev
  go_wp2_with fail
  refine (events_any _ _ 1 [⟨1, 1, 2⟩] rfl _ (D11.1.new (Below.alloc (Below.refl _ w11) (Nat.le_refl _) _)) (ev_blk (l := [⟨1, 1, 2⟩]) (by exact Blk.new w11 56 [_, _, _]) (by simp))).mono ?_
  rintro e w12 ⟨rfl, j12, rfl⟩
  go_wp2
  go_ret
  exact ⟨rfl, Below.drewN' (B11.alloc B11.size _) _⟩
end Go.Proofs.Ytlcmjpligaiadaa
