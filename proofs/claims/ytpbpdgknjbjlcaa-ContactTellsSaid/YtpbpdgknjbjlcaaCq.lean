/- Contacts: four, walked. -/
import Derived.Test.YtpbpdgknjbjlcaaCp
namespace Go.Proofs.Ytpbpdgknjbjlcaa
open Go.RowKit
set_option maxRecDepth 100000 in
theorem four19_few (sv : Value) (n : Nat) (l : List Sp) (w : World) (hv : Rd w sv n 5 (spCells l)) (hn : n ≤ 4) :
    Calls Try.prog 19 #[sv] w fun e w' => e = .returned sv ∧ Below w.heap.size w w' := by
  obtain ⟨a, c, rfl, c1, c2⟩ := hv.shape
  have hB : Below w.heap.size w (w.alloc (.cells #[.slice a n c] 30)) := (Below.refl _ w).alloc (Nat.le_refl _) _
  have hnI : (n : Int) ≤ 4 := by omega
  clear hv
  go_enter Try.func19, Try.ntmps19
  go_wp2
  go_ret
  exact ⟨rfl, hB⟩
set_option maxRecDepth 100000 in
theorem four19_many (sv : Value) (n : Nat) (l : List Sp) (w : World) (hl : l.length = n) (hv : Rd w sv n 5 (spCells l)) (hn : 4 < n) (hnear : ∀ s ∈ l, Near 67108864 s.p) :
    Calls Try.prog 19 #[sv] w fun e w' => (∃ v C, e = .returned v ∧ Chain l n C ∧ C.length = 4 ∧ w'.ownsRow w.heap.size 40 5 v 4 (spCells ((sortN C).map (spAt l)))) ∧ Below w.heap.size w w' := by
  obtain ⟨a, c, rfl, c1, c2⟩ := hv.shape
  obtain ⟨b, off, rfl⟩ := hv.addr (by omega)
  have hnI : ¬ (n : Int) ≤ 4 := by omega
  have hnI2 : (n : Int) ≤ 9223372036854775807 := by omega
  have Hl := Lib.hid hl
  have Hnear := Lib.hid hnear
  have Hv := Lib.hid hv
  have k0 : (w.alloc (.cells #[.slice (some ⟨b, off, none⟩) n c] 30)).cell? ⟨w.heap.size, 0, none⟩ = some (.slice (some ⟨b, off, none⟩) n c) := (Blk.new w 30 [.slice (some ⟨b, off, none⟩) n c]).cell 0
  obtain ⟨i0, hi, hz0, hz1, hz2⟩ := info_parts info40
  clear hl hnear hv
  go_enter Try.func19, Try.ntmps19
  go_upto_region 6 with (fail)
  clear k0
  obtain ⟨w1, hw1⟩ : ∃ w1, (w.alloc (.cells #[.slice (some ⟨b, off, none⟩) n c] 30)).alloc (.cells #[.slice none 0 0] 49) = w1 := ⟨_, rfl⟩
  have hb1 : Blk w1 w.heap.size 30 [.slice (some ⟨b, off, none⟩) n c] := by rw [← hw1]; exact (Blk.new w 30 [.slice (some ⟨b, off, none⟩) n c]).alloc _
  have hb3 : Blk w1 (w.heap.size + 1) 49 [.slice none 0 0] := by rw [← hw1]; exact Blk.newAt (w := w.alloc (.cells #[.slice (some ⟨b, off, none⟩) n c] 30)) (by simp) 49 [.slice none 0 0]
  have hB1 : Below w.heap.size w w1 := by rw [← hw1]; exact ((Below.refl _ w).alloc (Nat.le_refl _) _).alloc (by simp) _
  have hs1 : w1.heap.size = w.heap.size + 2 := by rw [← hw1]; simp
  change Code.wp _ _ _ _ ((w.alloc (.cells #[.slice (some ⟨b, off, none⟩) n c] 30)).alloc (.cells #[.slice none 0 0] 49))
  rw [hw1]
  clear hw1
  obtain ⟨bl, hbl⟩ : ∃ bl, bl = w.heap.size := ⟨_, rfl⟩
  simp only [← hbl] at hb1 hb3 hs1 ⊢
  have Hbl := Lib.hid hbl
  have hL : Lst (bl + 1) w1 bl n l := by
    refine ⟨_, fun W hW => ⟨(hb1.below hW (Nat.lt_succ_self _)).cell 0, ?_⟩⟩
    exact Hv.out.new (hB1.trans (hW.mono (by omega)))
  have hC0 : Cho (bl + 1) w1 (bl + 1) [] := ⟨_, hb3, World.ownsRow_nil _ _ _ _⟩
  have HB1 := Lib.hid hB1
  have HL := Lib.hid hL
  have HC0 := Lib.hid hC0
  have hs1' : bl + 1 ≤ w1.heap.size := by omega
  clear hbl hL hC0 hb1 hb3 hB1 hs1
  go_wp2_with fail
  refine (best40_A (bl + 1) bl (bl + 1) n l [] w1 HL.out Hl.out (by omega) hs1' (Nat.le_refl _) HC0.out (by simp)).mono ?_
  rintro e w2 ⟨rfl, ⟨m0, hm0, hC1⟩, hB2⟩
  have HC1 : Hid (Chain l n [m0] ∧ Cho (bl + 1) w2 (bl + 1) [m0]) := Lib.hid ⟨Chain.one m0 hm0, hC1⟩
  have HB2 := Lib.hid hB2
  clear hm0 hC1 hB2 HC0
  go_upto_block 7 with (fail)
  go_loopg [] 3 (fun g wx => ∃ C : List Nat, C.length + g = 4 ∧ Hid (Chain l n C ∧ Cho (bl + 1) wx (bl + 1) C) ∧ Below (bl + 1) w1 wx)
  case atStart => exact ⟨[m0], rfl, HC1, HB2.out⟩
  case round =>
    obtain ⟨C, hg, HC, hB⟩ := hrel
    obtain ⟨hch, cv, hb3, hown⟩ := HC.out
    obtain ⟨ao, cap, rfl, -, -, -⟩ := own_clip hown
    have c3 : _ = some (Value.slice ao C.length cap) := hb3.cell 0
    have Hb3 := Lib.hid hb3
    have Hown := Lib.hid hown
    have Hch := Lib.hid hch
    have hs := hB.size
    have HB := Lib.hid hB
    clear hb3 hown hch hB
    by_cases h4 : C.length < 4
    · have h4I : (C.length : Int) < 4 := by omega
      go_wp2_with fail
      refine (best40_B (bl + 1) bl (bl + 1) n l C wr (HL.out.below HB.out) Hl.out (by omega) (by omega) (Nat.le_refl _) HC.out.2 (by omega) (by omega) Hch.out.lt Hnear.out).mono ?_
      rintro e w5 ⟨rfl, ⟨m, hm, hC5⟩, hB5⟩
      have HC5 : Hid (Chain l n (C ++ [m]) ∧ Cho (bl + 1) w5 (bl + 1) (C ++ [m])) := Lib.hid ⟨Chain.snoc C m Hch.out hm, hC5⟩
      have HB5 := Lib.hid (HB.out.trans hB5)
      clear hm hC5 hB5 c3
      go_wp2
      go_roundg (3 - C.length)
      case rel => exact ⟨C ++ [m], by rw [List.length_append, List.length_singleton]; omega, HC5, HB5.out⟩
      case measure => omega
    · have hT4 : C.length = 4 := by omega
      have hown4 := Hown.out
      have hb4 := Hb3.out
      rw [hT4] at hown4 hb4 c3
      have Hown4 := Lib.hid hown4
      have Hb4 := Lib.hid hb4
      have HT4 := Lib.hid hT4
      have hne : Hid (∀ r, (Value.slice ao 4 cap).ownBlock = some r → r ≠ bl + 1) := Lib.hid (by
        intro r hr
        rcases hown4.2 with ⟨h1, _⟩ | ⟨gg, cap', cur, h1, _, hh, _⟩
        · rw [h1] at hr; simp [Value.ownBlock] at hr
        · rw [h1] at hr
          have : gg = r := by simpa [Value.ownBlock] using hr
          subst this
          exact blk_ne_cells hb4 hh (by decide))
      clear hown4 hb4 hT4 h4 hg Hown Hb3 HC
      go_wp2_with fail
      refine (sort42_idx' (bl + 1) (.slice ao 4 cap) C 4 wr HT4.out Hown4.out (by omega)).mono ?_
      rintro e w5 ⟨rfl, hown5, hgrow⟩
      have hB5 : Below (bl + 1) w1 w5 := HB.out.grown hgrow (by omega) (fun r hr => ownBlock_ge Hown4.out hr)
      have hb5 := Hb4.out.grown hgrow (fun e => hne.out _ e rfl)
      have c5 : _ = some (Value.slice ao 4 cap) := hb5.cell 0
      obtain ⟨D, hD⟩ : ∃ D, D = sortN C := ⟨_, rfl⟩
      rw [← hD] at hown5
      have HD := Lib.hid hD
      have hDl : D.length = 4 := by rw [hD, sortN_len]; exact HT4.out
      have hDn : ∀ k ∈ D, k < n := fun k hk => Hch.out.lt k ((sortN_perm C).mem_iff.1 (by rw [← hD]; exact hk))
      have HR5 := Lib.hid (Rd.of_own hown5)
      obtain ⟨g, gc, hao⟩ := own_addr hown5 (by decide)
      obtain ⟨rfl, rfl⟩ : ao = some ⟨g, 0, none⟩ ∧ cap = gc := by cases hao; exact ⟨rfl, rfl⟩
      have HDl := Lib.hid hDl
      have HDn := Lib.hid hDn
      have HB5 := Lib.hid hB5
      have hs5 := hB5.size
      have hbs : w.heap.size ≤ w5.heap.size := Nat.le_trans HB1.out.size hs5
      clear hD hown5 hgrow hB5 hDl hDn c3 Hown4 Hb4 hne hb5 hao
      go_upto_block 12 with (fail)
      clear c5
      go_loopw [6, 8, 28] (fun v _ i wx => ∃ k : Nat, k ≤ 4 ∧ i = .int .i64 (k : Int) ∧ wx.ownsRow w5.heap.size 40 5 v k (spCells ((D.take k).map (spAt l))) ∧ Below w5.heap.size w5 wx) (fun _ _ i _ => 4 - (intOf i).toNat)
      case atStart => exact ⟨0, by omega, rfl, World.ownsRow_nil _ _ _ _, Below.refl _ _⟩
      case round =>
        obtain ⟨k, hk, rfl, hown, hB⟩ := hrel
        by_cases hk4 : k < 4
        · obtain ⟨x, hx⟩ : ∃ x, D[k]? = some x := ⟨_, List.getElem?_eq_getElem (by rw [HDl.out]; exact hk4)⟩
          have hxn := HDn.out x (List.mem_of_getElem? hx)
          have q0 := (HR5.out.new hB).idx hk4 hx
          rw [Nat.zero_add] at q0
          have hsn : (D.take (k + 1)).map (spAt l) = (D.take k).map (spAt l) ++ [spAt l x] := by rw [List.take_add_one, hx]; simp
          obtain ⟨b2, off2, cc2, z1, z2, hLs⟩ := HL.out.get (by omega)
          have hBx := HB5.out.trans (hB.mono (Nat.le_trans hs1' hs5))
          obtain ⟨m0, mR⟩ := hLs wr hBx
          obtain ⟨p0, p1, p2, p3, p4⟩ := mR.sp hxn (spAt_get (by rw [Hl.out]; exact hxn))
          have hkI : (k : Int) < 4 := by omega
          have hxI : (x : Int) < (n : Int) := by omega
          have hxI0 : (0 : Int) ≤ (x : Int) := by omega
          have hs := hB.size
          have Hsn := Lib.hid hsn
          have HB := Lib.hid hB
          clear hLs hBx mR hx hsn hB
          generalize spAt l x = s at *
          go_wp2_with (at_builtin; refine wpList_append_own _ rfl _ _ 30 rfl w5.heap.size 40 i0 (.agg #[.int .i64 0, .int .i64 0, .int .i64 0, .int .i64 0, .int .i64 0]) 5 40 Try.underlying30 hi hz0 hz1 hz2 rfl (by decide) _ _ _ rfl (hown.alloc _) ⟨wr.heap.size, 0, none⟩ 1 1 s.cells rfl rfl (World.news_of_block (cs := s.cells.toArray) (t := 40) (fr := (0, 0)) (heap_alloc_new wr _)) (by simp [Sp.cells, Value.oneCell']) (by unfold maxLen; omega) (by omega) (by simp; omega) ?_; intro v' w7 hown' hgrow _)
          have hb7 : Below w5.heap.size w5 w7 := (HB.out.alloc hs _).grown hgrow (by simp; omega) (fun r hr => ownBlock_ge hown hr)
          have hown2 : w7.ownsRow w5.heap.size 40 5 v' (k + 1) (spCells ((D.take (k + 1)).map (spAt l))) := by
            rw [Hsn.out, spCells_snoc]
            exact hown'
          clear hown' hgrow
          go_roundw
          case rel => exact ⟨k + 1, by omega, by go_num, hown2, hb7⟩
          case measure => simp [intOf]; omega
        · obtain rfl : k = 4 := by omega
          have hall : D.take 4 = sortN C := by rw [← HDl.out, List.take_length, HD.out]
          rw [hall] at hown
          have Hown := Lib.hid (own_base (base' := w.heap.size) hown hbs)
          have HBz := Lib.hid (HB1.out.trans ((HB5.out.mono (Nat.le_of_lt (by rw [← Hbl.out]; exact Nat.lt_succ_self _))).trans (hB.mono hbs)))
          clear hown hB hall
          go_wp2
          go_ret
          exact ⟨⟨_, C, rfl, Hch.out, HT4.out, Hown.out⟩, HBz.out⟩
end Go.Proofs.Ytpbpdgknjbjlcaa
