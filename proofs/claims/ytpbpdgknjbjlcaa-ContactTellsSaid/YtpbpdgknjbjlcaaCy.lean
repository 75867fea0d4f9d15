/- Contacts: two slices of points, one behind the other. -/
import Derived.Test.YtpbpdgknjbjlcaaCx
import Derived.Test.YtpbpdgknjbjlcaaGw
namespace Go.Proofs.Ytpbpdgknjbjlcaa
open Go.RowKit
theorem info26 : (Try.prog.info? 26).map (fun i => (i.zero, i.size, i.bytes)) = some (some (.agg #[.int .i64 0, .int .i64 0, .int .i64 0]), 3, 24) := by kernel_rfl
theorem pt_one (l : List Pt) : ∀ u ∈ ptCells l, u.oneCell' = true := by
  intro u hu
  obtain ⟨p, _, hp⟩ := List.mem_flatMap.1 hu
  simp [Pt.cells] at hp
  rcases hp with rfl | rfl | rfl <;> rfl
theorem grow57_any (n : Nat) (w : World) (hn : n ≤ 1000000) :
    Calls Try.prog 57 #[.slice none 0 0, .int .i64 (n : Int)] w fun e w' => (∃ v, e = .returned v ∧ w'.ownsRow w.heap.size 26 3 v 0 []) ∧ Below w.heap.size w w' := by
  obtain ⟨i0, hi, hz0, hz1, hz2⟩ := info_parts info26
  by_cases h0 : n = 0
  · subst h0
    refine (Any8.slices_Grow_room lgrow none 0 0 0 w (Nat.le_refl _) (by decide) (by decide) (Nat.le_refl _)).mono ?_
    rintro e w' ⟨rfl, rfl⟩
    exact ⟨⟨_, rfl, World.ownsRow_nil _ _ _ _⟩, Below.refl _ _⟩
  · refine (Any8.slices_Grow_grow lgrow i0 _ hi hz0 (by rw [hz1]; decide) none 0 0 n [] w (Nat.le_refl _) (by omega) (by rw [hz2]; omega) (by omega) (by simp) (fun _ => rfl) (by simp)).mono ?_
    rintro e w' ⟨rfl, rfl⟩
    refine ⟨⟨_, rfl, by simp, .inr ⟨w.heap.size, _, _, rfl, Nat.le_refl _, World.alloc_heap_new w.drew _, Nat.zero_le _, ?_, ?_, by simp⟩⟩, ((Below.refl _ w).drew).alloc (Nat.le_refl _) _⟩
    · exact grownCap_le_maxLen _ _ _ _ (by unfold maxLen; omega)
    · have e3 : lgrow_ren.t 25 = 26 := rfl
      rw [e3, Nat.zero_add]
      have hge := grownCap_ge w n 0 26
      generalize grownCap w n 0 26 = G at *
      simp only [Array.size_append, size_zeroCells, List.size_toArray, List.length_nil, Value.cells]
      simp
      omega
set_option maxRecDepth 100000 in
set_option maxHeartbeats 400000 in
theorem concat48_any (bs : Nat) (va vb : Value) (na nb : Nat) (A B : List Pt) (w : World) (hbs : Blk w bs 22 [va, vb]) (ha : Rd w va na 3 (ptCells A)) (hb : Rd w vb nb 3 (ptCells B)) (hla : A.length = na) (hlb : B.length = nb) (hna : na ≤ 1000) (hnb : nb ≤ 1000) :
    Calls Try.prog 48 #[.slice (some ⟨bs, 0, none⟩) 2 2] w fun e w' => (∃ v, e = .returned v ∧ w'.ownsRow w.heap.size 26 3 v (na + nb) (ptCells (A ++ B))) ∧ Below w.heap.size w w' := by
  obtain ⟨aa, ac, rfl, a1, a2⟩ := ha.shape
  obtain ⟨ba, bc, rfl, b1, b2⟩ := hb.shape
  obtain ⟨i0, hi, hz0, hz1, hz2⟩ := info_parts info26
  have k0 : w.cell? ⟨bs, 0, none⟩ = some (.slice aa na ac) := hbs.cell 0
  have k1 : w.cell? ⟨bs, 1, none⟩ = some (.slice ba nb bc) := hbs.cell 1
  have Hbs := Lib.hid hbs
  have Ha := Lib.hid ha
  have Hb := Lib.hid hb
  have hna0 : (0 : Int) ≤ (na : Int) := by omega
  have hnb0 : (0 : Int) ≤ (nb : Int) := by omega
  have hna1 : (na : Int) ≤ 1000 := by omega
  have hnb1 : (nb : Int) ≤ 1000 := by omega
  clear hbs ha hb
  go_enter Try.func48, Try.ntmps48
  go_upto_block 3 with (fail)
  go_loopw [3, 5, 11] (fun s _ i wr => (i = .int .i64 0 ∧ s = .int .i64 0 ∨ i = .int .i64 1 ∧ s = .int .i64 (na : Int) ∨ i = .int .i64 2 ∧ s = .int .i64 ((na : Int) + nb)) ∧ wr = w) (fun _ _ i _ => 2 - (intOf i).toNat)
  case atStart => exact ⟨.inl ⟨rfl, rfl⟩, rfl⟩
  case round =>
    obtain ⟨h, rfl⟩ := hrel
    rcases h with ⟨rfl, rfl⟩ | ⟨rfl, rfl⟩ | ⟨rfl, rfl⟩
    · go_wp2
      go_roundw
      case rel => exact ⟨.inr (.inl ⟨rfl, by go_num⟩), trivial⟩
      case measure => simp [intOf]
    · go_wp2
      go_roundw
      case rel => exact ⟨.inr (.inr ⟨rfl, by go_num⟩), trivial⟩
      case measure => simp [intOf]
    · obtain ⟨wz, hwz⟩ : ∃ wz : World, wz = wr := ⟨_, rfl⟩
      subst hwz
      go_wp2_with fail
      have hc : ((na : Int) + (nb : Int)) = ((na + nb : Nat) : Int) := by omega
      rw [hc]
      refine (grow57_any (na + nb) wz (by omega)).mono ?_
      rintro e w2 ⟨⟨v, rfl, hown⟩, hB2⟩
      have hs2 := hB2.size
      have hbs2 := Hbs.out.below hB2 Hbs.out.lt
      have Ha2 := Lib.hid (Ha.out.new hB2)
      have Hb2 := Lib.hid (Hb.out.new hB2)
      have HB2 := Lib.hid hB2
      have Hown := Lib.hid hown
      have Hbs2 := Lib.hid hbs2
      have lbs : bs < w2.heap.size := hbs2.lt
      have lbs1 : bs < wz.heap.size := Hbs.out.lt
      clear k0 k1 hB2 hown hbs2 hc
      go_upto_block 11 with (fail)
      go_loopw [6, 8, 27] (fun v _ i wx => ((i = .int .i64 0 ∧ wx.ownsRow wz.heap.size 26 3 v 0 []) ∨ (i = .int .i64 1 ∧ wx.ownsRow wz.heap.size 26 3 v na (ptCells A)) ∨ (i = .int .i64 2 ∧ wx.ownsRow wz.heap.size 26 3 v (na + nb) (ptCells (A ++ B)))) ∧ Below wz.heap.size wz wx) (fun _ _ i _ => 2 - (intOf i).toNat)
      case atStart => exact ⟨.inl ⟨rfl, Hown.out⟩, HB2.out⟩
      case round =>
        clear Hown HB2 Ha2 Hb2 Hbs2
        obtain ⟨h, hB⟩ := hrel
        have hs := hB.size
        have hbs3 := Hbs.out.below hB Hbs.out.lt
        have k0 : wr.cell? ⟨bs, 0, none⟩ = some (.slice aa na ac) := hbs3.cell 0
        have k1 : wr.cell? ⟨bs, 1, none⟩ = some (.slice ba nb bc) := hbs3.cell 1
        have HRa := Lib.hid (Ha.out.new hB)
        have HRb := Lib.hid (Hb.out.new hB)
        have HB := Lib.hid hB
        clear hbs3 hB
        rcases h with ⟨rfl, hown⟩ | ⟨rfl, hown⟩ | ⟨rfl, hown⟩
        · go_wp2_with (at_builtin; refine wpList_append_rd rfl _ _ 22 rfl wz.heap.size 26 i0 (.agg #[.int .i64 0, .int .i64 0, .int .i64 0]) 3 24 Try.underlying22 hi hz0 hz1 hz2 rfl (by decide) _ 0 [] rfl hown (.slice aa na ac) na (ptCells A) rfl HRa.out (pt_one A) (by unfold maxLen; omega) (by omega) hs ?_; intro v' w7 hown' hgrow _)
          have hB7 : Below wz.heap.size wz w7 := HB.out.grown hgrow hs (fun r hr => ownBlock_ge hown hr)
          have hown8 : w7.ownsRow wz.heap.size 26 3 v' na (ptCells A) := by simpa using hown'
          clear hown' hgrow
          go_roundw
          case rel => exact ⟨.inr (.inl ⟨by go_num, hown8⟩), hB7⟩
          case measure => simp [intOf]
        · go_wp2_with (at_builtin; refine wpList_append_rd rfl _ _ 22 rfl wz.heap.size 26 i0 (.agg #[.int .i64 0, .int .i64 0, .int .i64 0]) 3 24 Try.underlying22 hi hz0 hz1 hz2 rfl (by decide) _ na (ptCells A) rfl hown (.slice ba nb bc) nb (ptCells B) rfl HRb.out (pt_one B) (by unfold maxLen; omega) (by omega) hs ?_; intro v' w7 hown' hgrow _)
          have hB7 : Below wz.heap.size wz w7 := HB.out.grown hgrow hs (fun r hr => ownBlock_ge hown hr)
          have hown8 : w7.ownsRow wz.heap.size 26 3 v' (na + nb) (ptCells (A ++ B)) := by
            have e : ptCells (A ++ B) = ptCells A ++ ptCells B := by simp [ptCells]
            rw [e]
            exact hown'
          clear hown' hgrow
          go_roundw
          case rel => exact ⟨.inr (.inr ⟨by go_num, hown8⟩), hB7⟩
          case measure => simp [intOf]
        · go_wp2
          go_ret
          exact ⟨⟨_, rfl, hown⟩, HB.out⟩
end Go.Proofs.Ytpbpdgknjbjlcaa
