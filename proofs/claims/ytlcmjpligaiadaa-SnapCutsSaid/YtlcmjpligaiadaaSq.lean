/- SnapLays: numbers are laid as the document says, and read again. -/
import Derived.Test.YtlcmjpligaiadaaSp
namespace Go.Proofs.Ytlcmjpligaiadaa
open Go.RowKit
set_option maxRecDepth 100000 in
set_option maxHeartbeats 2000000 in
theorem lays_any (v : Value) (n : Nat) (l : List Int) (hl : l.length = n) (hx : ∀ x ∈ l, -9223372036854775808 ≤ x ∧ x < 9223372036854775808) (w : World) (hr : Rd w v n 1 (ints l)) (hB : n * 8 ≤ 140737488351232) :
    Calls Try.prog 3 #[v] w fun e w' => e = .returned (.bool true) ∧ Below w.heap.size w w' := by
  obtain ⟨i0, hi, hz0, hz1, hz2⟩ := info_parts info3t
  obtain ⟨va, vc, rfl, hv1, hv2⟩ := hr.shape
  have Hl := Lib.hid hl
  have Hx := Lib.hid hx
  clear hl hx
  go_enter Try.func3, Try.ntmps3
  go_wp2_with fail
  refine (awake11_any w).mono ?_
  rintro e w1 ⟨rfl, B1⟩
  have hr1 := hr.new B1
  go_wp2_with (at_builtin; refine wpList_append_rd rfl _ _ 22 rfl w1.heap.size 3 i0 (.int .i64 0) 1 8 Try.underlying22 hi hz0 hz1 hz2 rfl (by decide) _ 0 [] rfl (World.ownsRow_nil _ _ _ _) _ n (ints l) rfl hr1 (fun u h => ints_one u h) (by unfold maxLen; omega) (by omega) (Nat.le_refl _) ?_; intro v2 w2 o2 g2 q2)
  rw [Nat.zero_add, List.nil_append] at o2
  have B2 : Below w1.heap.size w1 w2 := Below.grown (Below.refl _ _) g2 (Nat.le_refl _) (fun b h => by cases h)
  have hr2 := hr1.new B2
  have ho2 := Rd.of_own o2
  obtain ⟨ca, cc, rfl, hc1, hc2⟩ := ho2.shape
  have BW2 := B1.trans (B2.mono B1.size)
  have hco : ∀ b, (Value.slice ca n cc).ownBlock = some b → w1.heap.size ≤ b ∧ b < w2.heap.size := fun b e => ⟨ownBlock_ge o2 e, own_lt o2 e⟩
  have Hco := Lib.hid hco
  clear hco
  by_cases h4 : n ≤ 4000
  · have hd4 : decide ((4000 : Int) < (n : Int)) = false := by simp; omega
    go_wp2_with fail
    refine (lay_any _ n l Hl.out h4 w2 ho2).mono ?_
    rintro e w3 ⟨rfl, B3⟩
    have hs := nats_lay l
    have hz : (strN (layNs l)).size = 16 + 8 * n := by rw [lay_size, Hl.out]
    have BW3 := BW2.trans (B3.mono BW2.size)
    have hr3 := hr2.new B3
    have ho3 := ho2.new B3
    go_wp2_with fail
    refine (layr_any _ n l Hl.out h4 w3 hr3).mono ?_
    rintro e w4 ⟨rfl, B4⟩
    have BW4 := BW3.trans (B4.mono BW3.size)
    have hr4 := hr3.new B4
    have ho4 := ho3.new B4
    generalize strN (layNs l) = s at hs hz ⊢
    have Hs := Lib.hid hs
    clear hs
    obtain ⟨U, hU⟩ : ∃ U, sumN (nats s) = U := ⟨_, rfl⟩
    have HU := Lib.hid hU
    clear hU
    go_wp2_with fail
    refine (sum14_any s w4 (by rw [hz]; unfold maxLen; omega)).mono ?_
    rintro e w4' ⟨rfl, rfl⟩
    rw [HU.out]
    go_wp2_with fail
    refine (sum15_any s w4 (by rw [hz]; unfold maxLen; omega)).mono ?_
    rintro e w4' ⟨rfl, rfl⟩
    rw [HU.out]
    have hUU : ((U : Int) != (U : Int)) = false := by simp
    go_wp2_with fail
    refine (numbers_any _ _ n n l l Hl.out Hl.out w4 ho4 hr4).mono ?_
    rintro e w5 ⟨rfl, j5, hw5⟩
    rw [decide_eq_true (rfl : l = l)]
    have B5 : Below w4.heap.size w4 w5 := by rw [hw5]; exact Below.drewN' (Below.refl _ w4) j5
    clear hw5
    have BW5 := BW4.trans (B5.mono BW4.size)
    have hr5 := hr4.new B5
    go_wp2_with fail
    refine (take_good l n Hl.out h4 Hx.out s Hs.out w5).mono ?_
    rintro e w6 ⟨v6, rfl, hr6, hb6, B6⟩
    have BW6 := BW5.trans (B6.mono BW5.size)
    have hr56 := hr5.new B6
    obtain ⟨a6, c6, rfl, _, _⟩ := hr6.shape
    go_wp2_with fail
    refine (numbers_any _ _ n n l l Hl.out Hl.out w6 hr6 hr56).mono ?_
    rintro e w7 ⟨rfl, j7, hw7⟩
    rw [decide_eq_true (rfl : l = l)]
    have B7 : Below w6.heap.size w6 w7 := by rw [hw7]; exact Below.drewN' (Below.refl _ w6) j7
    clear hw7
    have BW7 := BW6.trans (B7.mono BW6.size)
    have hr7 := hr56.new B7
    have hb7 : n = 0 ∨ ∃ (g : Nat) (zs : List Value), a6 = some ⟨g, 0, none⟩ ∧ Blk w7 g 3 zs ∧ n ≤ zs.length ∧ w.heap.size ≤ g := by
      rcases hb6 with h | ⟨g, zs, he, hg, hn, hge⟩
      · exact .inl h
      · exact .inr ⟨g, zs, by cases he; rfl, hg.below B7 hg.lt, hn, by have := BW5.size; omega⟩
    clear hb6
    go_wp2_with fail
    go_loopw [9] (fun i wr => ∃ k : Nat, k ≤ n ∧ i = .int .i64 k ∧ (n = 0 ∨ ∃ (g : Nat) (zs : List Value), a6 = some ⟨g, 0, none⟩ ∧ Blk wr g 3 zs ∧ n ≤ zs.length ∧ w.heap.size ≤ g) ∧ Below w.heap.size w wr) (fun i _ => n - (intOf i).toNat)
    case atStart => exact ⟨0, Nat.zero_le _, rfl, hb7, BW7⟩
    case round =>
      obtain ⟨k, hk, rfl, hb, hB8⟩ := hrel
      by_cases hlt : k < n
      · have hkI : (k : Int) < (n : Int) := by omega
        rcases hb with rfl | ⟨g, zs, rfl, hg, hn, hge⟩
        · omega
        · obtain ⟨z, hzk⟩ : ∃ z, zs[k]? = some z := ⟨_, List.getElem?_eq_getElem (by omega)⟩
          have qc := hg.cell k
          have qf := hg.frozen k
          rw [hzk] at qc
          clear hzk
          go_wp2
          go_roundw
          case rel => exact ⟨k + 1, by omega, by go_num, .inr ⟨g, _, rfl, hg.set k _, by simpa using hn, hge⟩, hB8.setCell (by exact hge) _⟩
          case measure => simp [intOf]; omega
      · obtain rfl : k = n := by omega
        have hkI : ¬ (k : Int) < (k : Int) := by omega
        have hrw := hr.new hB8
        have HB8 := Lib.hid hB8
        clear hB8 hb hb7
        go_wp2_with fail
        refine (take_good l k Hl.out h4 Hx.out s Hs.out wr).mono ?_
        rintro e w8 ⟨v8, rfl, hr8, _, B8⟩
        have BW8 := HB8.out.trans (B8.mono HB8.out.size)
        have hr78 := hrw.new B8
        go_wp2_with fail
        refine (numbers_any _ _ k k l l Hl.out Hl.out w8 hr8 hr78).mono ?_
        rintro e w9 ⟨rfl, j9, hw9⟩
        rw [decide_eq_true (rfl : l = l)]
        have B9 : Below w8.heap.size w8 w9 := by rw [hw9]; exact Below.drewN' (Below.refl _ w8) j9
        clear hw9
        have BW9 := BW8.trans (B9.mono BW8.size)
        go_wp2_with fail
        go_ret
        exact ⟨rfl, BW9⟩
  · have hd4 : decide ((4000 : Int) < (n : Int)) = true := by simp; omega
    go_wp2_with fail
    refine (lay_big _ n l w2 ho2 (by omega)).mono ?_
    rintro e w3 ⟨rfl, rfl⟩
    go_wp2_with fail
    refine (layr_big _ n l w2 hr2 (by omega)).mono ?_
    rintro e w3 ⟨rfl, rfl⟩
    obtain ⟨U, hU⟩ : ∃ U, sumN (nats ⟨#[]⟩) = U := ⟨_, rfl⟩
    have HU := Lib.hid hU
    clear hU
    go_wp2_with fail
    refine (sum14_any ⟨#[]⟩ w2 (by decide)).mono ?_
    rintro e w4' ⟨rfl, rfl⟩
    rw [HU.out]
    go_wp2_with fail
    refine (sum15_any ⟨#[]⟩ w2 (by decide)).mono ?_
    rintro e w4' ⟨rfl, rfl⟩
    rw [HU.out]
    have hUU : ((U : Int) != (U : Int)) = false := by simp
    go_wp2_with fail
    refine (numbers_any _ _ n n l l Hl.out Hl.out w2 ho2 hr2).mono ?_
    rintro e w5 ⟨rfl, j5, hw5⟩
    rw [decide_eq_true (rfl : l = l)]
    have B5 : Below w2.heap.size w2 w5 := by rw [hw5]; exact Below.drewN' (Below.refl _ w2) j5
    clear hw5
    have BW5 := BW2.trans (B5.mono BW2.size)
    go_wp2_with fail
    refine (take_short ⟨#[]⟩ (by decide) w5).mono ?_
    rintro e w6 ⟨rfl, rfl⟩
    go_wp2_with fail
    go_ret
    exact ⟨rfl, BW5⟩
end Go.Proofs.Ytlcmjpligaiadaa
