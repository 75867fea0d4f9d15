/- PairsPlay, walked. -/
import Derived.Test.YtlcmjpligaiadaaWl
namespace Go.Proofs.Ytlcmjpligaiadaa
open Go.RowKit
set_option maxRecDepth 100000 in
set_option maxHeartbeats 4000000 in
theorem play4_bad (room : Int) (hroom : room < 1 ∨ 4096 < room) (sv : Value) (w : World) :
    Calls Try.prog 8 #[.int .i64 room, sv] w fun e w' => e = .returned (.bool true) ∧ Below w.heap.size w w' := by
  go_enter Try.func8, Try.ntmps8
  go_wp2_with fail
  refine (awake4_any w).mono ?_
  rintro e w1 ⟨rfl, B1⟩
  go_wp2_with fail
  refine (pnew_bad room w1 hroom).mono ?_
  rintro e w2 ⟨rfl, rfl⟩
  go_wp2_with fail
  refine (rnew_bad room w1 hroom).mono ?_
  rintro e w2 ⟨rfl, rfl⟩
  go_wp2_with fail
  refine (pnew_ok 8 8 rfl w.heap.size w1 (by decide) (by decide)).mono ?_
  rintro e w3 ⟨rfl, S3, B3⟩
  go_wp2_with fail
  refine (rnew_ok 8 8 rfl w.heap.size w3 (by decide) (by decide)).mono ?_
  rintro e w4 ⟨rfl, S4, B4⟩
  have h1 := B1.size
  have h3 := B3.size
  go_wp2
  go_ret
  exact ⟨rfl, (B1.trans (B3.mono h1)).trans (B4.mono (by omega))⟩
set_option maxRecDepth 100000 in
set_option maxHeartbeats 16000000 in
theorem play4_ok (room : Int) (R : Nat) (hR : room = (R : Int)) (hR1 : 1 ≤ R) (hR2 : R ≤ 4096) (sv : Value) (m : Nat) (ss : List Stp) (hl : ss.length = m) (w : World) (hr : Rd w sv m 4 (stps ss)) (hg : ∀ x ∈ ss, GoodStp x) (hb : m * 32 ≤ 140737488351232) :
    Calls Try.prog 8 #[.int .i64 room, sv] w fun e w' => e = .returned (.bool true) ∧ Below w.heap.size w w' := by
  obtain ⟨sa, sc, rfl, s1, s2⟩ := hr.shape
  subst hR
  have Hl := Lib.hid hl
  have Hg := Lib.hid hg
  clear hl hg
  go_enter Try.func8, Try.ntmps8
  go_wp2_with fail
  refine (awake4_any w).mono ?_
  rintro e w1 ⟨rfl, B1⟩
  go_wp2_with fail
  refine (pnew_ok (R : Int) R rfl w.heap.size w1 hR1 hR2).mono ?_
  rintro e w2 ⟨rfl, S2, B2⟩
  go_wp2_with fail
  refine (rnew_ok (R : Int) R rfl w.heap.size w2 hR1 hR2).mono ?_
  rintro e w3 ⟨rfl, S3, B3⟩
  go_wp2_with fail
  refine (pnew_ok 8 8 rfl w.heap.size w3 (by decide) (by decide)).mono ?_
  rintro e w4 ⟨rfl, S4, B4⟩
  go_wp2_with fail
  refine (rnew_ok 8 8 rfl w.heap.size w4 (by decide) (by decide)).mono ?_
  rintro e w5 ⟨rfl, S5, B5⟩
  have h1 := B1.size
  have h2 := S2.head.lt
  have h3 := S3.head.lt
  have h4 := S4.head.lt
  have h5 := S5.head.lt
  have h2' := B2.size
  have h3' := B3.size
  have h4' := B4.size
  have fn : ∀ s j, Foot s (.slice none 0 0) j → j = s := fun s j h => foot_nil h
  have Q5 : Quad w w5 w1.heap.size w2.heap.size w3.heap.size w4.heap.size (.slice none 0 0) (.slice none 0 0) (.slice none 0 0) (.slice none 0 0) R 8 [] [] [] [] :=
    ⟨(((B1.trans (B2.mono h1)).trans (B3.mono (by omega))).trans (B4.mono (by omega))).trans (B5.mono (by omega)), ((S2.new B3).new B4).new B5, (S3.new B4).new B5, S4.new B5, S5,
     fun j h1 h2 => by
       have := fn _ _ h1
       rcases h2 with h2 | h2 | h2 <;> (have := fn _ _ h2; omega),
     fun j h1 h2 => by
       have := fn _ _ h1
       rcases h2 with h2 | h2 <;> (have := fn _ _ h2; omega),
     fun j h1 h2 => by have := fn _ _ h1; have := fn _ _ h2; omega,
     fun j h => by rcases h with h | h | h | h <;> (have := fn _ _ h; omega)⟩
  generalize w1.heap.size = s at Q5 ⊢
  generalize w2.heap.size = r at Q5 ⊢
  generalize w3.heap.size = t at Q5 ⊢
  generalize w4.heap.size = q at Q5 ⊢
  clear S2 S3 S4 S5 B1 B2 B3 B4 B5 h1 h2 h3 h4 h5 h2' h3' h4' fn hR1 hR2
  go_wp2
  go_loopw [6, 8, 10, 12, 14] (fun p1 p2 p3 p4 i wr => ∃ (k s r t q : Nat) (vs vr vt vq : Value) (M N : Nat) (a b : List Pr), k ≤ m ∧ k ≤ 200 ∧ p1 = .pointer (some ⟨s, 0, none⟩) ∧ p2 = .pointer (some ⟨r, 0, none⟩) ∧ p3 = .pointer (some ⟨t, 0, none⟩) ∧ p4 = .pointer (some ⟨q, 0, none⟩) ∧ i = .int .i64 k ∧ Quad w wr s r t q vs vr vt vq M N a a b b) (fun _ _ _ _ i _ => 200 - (intOf i).toNat)
  case atStart => exact ⟨0, s, r, t, q, _, _, _, _, _, _, _, _, Nat.zero_le _, Nat.zero_le _, rfl, rfl, rfl, rfl, rfl, Q5⟩
  case round => as_aux_lemma =>
    clear Q5
    obtain ⟨k, s, r, t, q, vs, vr, vt, vq, M, N, a, b, hk, hk2, rfl, rfl, rfl, rfl, rfl, Q⟩ := hrel
    rcases (show (k < m ∧ k < 200) ∨ ¬ k < m ∨ (k < m ∧ ¬ k < 200) by omega) with ⟨hlt, hlt2⟩ | hlt | ⟨hlt, hlt2⟩
    · as_aux_lemma =>
      obtain ⟨lb, lo, rfl⟩ := hr.addr (by omega)
      have hrR := hr.new Q.bel
      have hkl : k < ss.length := by rw [Hl.out]; exact hlt
      obtain ⟨st, hst⟩ : ∃ st, ss[k]? = some st := ⟨_, List.getElem?_eq_getElem hkl⟩
      have hgood := Hg.out st (List.mem_of_getElem? hst)
      have g0 := hrR.at (i := k * 4 + 0) (by omega)
      have g1 := hrR.at (i := k * 4 + 1) (by omega)
      have g2 := hrR.at (i := k * 4 + 2) (by omega)
      have g3 := hrR.at (i := k * 4 + 3) (by omega)
      rw [stps_get hst _ (by decide), ← Nat.add_assoc] at g0 g1 g2 g3
      simp only [encStp, List.getElem?_cons_zero, List.getElem?_cons_succ, Nat.add_zero] at g0 g1 g2 g3
      obtain ⟨sw, xa, xb, far⟩ := st
      obtain ⟨⟨w1', w2'⟩, ⟨a1', a2'⟩, b1', b2'⟩ := hgood
      simp only at g0 g1 g2 g3 w1' w2' a1' a2' b1' b2'
      have hltI : (k : Int) < 200 := by omega
      have hkm : (k : Int) < (m : Int) := by omega
      clear hst hrR hkl
      go_upto_region 14 with (fail)
      obtain ⟨W1, hW1⟩ : ∃ W1, wr.alloc (.cells #[.int .i64 sw, .int .i64 xa, .int .i64 xb, .bool far] 67) = W1 := ⟨_, rfl⟩
      have bs : Blk W1 wr.heap.size 67 [.int .i64 sw, .int .i64 xa, .int .i64 xb, .bool far] := by rw [← hW1]; exact Blk.new wr 67 [_, _, _, _]
      have Q1 := Q.new (by rw [← hW1]; exact (Below.refl _ wr).alloc (Nat.le_refl _) _ : Below wr.heap.size wr W1)
      rw [hW1]
      clear hW1 Q
      have c0 := bs.cell 0
      have c1 := bs.cell 1
      have c2 := bs.cell 2
      have c3 := bs.cell 3
      simp only [List.getElem?_cons_zero, List.getElem?_cons_succ] at c0 c1 c2 c3
      have hbs := bs.lt
      have hbne : ¬ W1.heap.size = wr.heap.size := by omega
      have hbne2 : ¬ wr.heap.size = W1.heap.size := by omega
      go_cut [16] from 63 to 209 (fun pv wx => ∃ (z : Nat) (x y : Int), pv = .pointer (some ⟨z, 0, none⟩) ∧ W1.heap.size ≤ z ∧ Blk wx z 42 [.int .i64 (min x y), .int .i64 (max x y)] ∧ Below W1.heap.size W1 wx)
      case first => as_aux_lemma =>
        go_region_held3 (fun wx => wx.cell? ⟨wr.heap.size, 1, none⟩ = some (.int .i64 xa) ∧ wx.cell? ⟨wr.heap.size, 2, none⟩ = some (.int .i64 xb))
          (go_keep)
          (first
            | (go_at_call 38; refine (pick38_any _ _ _ (by omega) (by omega) (by decide) (by decide)).mono ?_; rintro e w5 ⟨rfl, rfl⟩)
            | (go_at_call 37; refine (of_any _ _ _).mono ?_; rintro e w5 ⟨rfl, B5⟩
               have B6 : Below W1.heap.size W1 w5 := by first | exact ((Below.refl _ W1).drew).trans (B5.mono (by simp)) | exact (((Below.refl _ W1).alloc (Nat.le_refl _) _).drew).trans (B5.mono (by simp))
               have k1 := (B6.cell (p := ⟨wr.heap.size, 1, none⟩) hbs).trans c1
               have k2 := (B6.cell (p := ⟨wr.heap.size, 2, none⟩) hbs).trans c2
               have hlt5 : wr.heap.size < w5.heap.size := by have := B6.size; omega
               try (have z5 : Blk w5 W1.heap.size 42 [.int .i64 0, .int .i64 0] := Blk.below (B := W1.heap.size + 1) (by exact (Blk.new W1 42 [.int .i64 0, .int .i64 0]).drew) (by simpa using B5) (by omega)
                    have y0 := z5.cell 0
                    have y1 := z5.cell 1
                    have y2 := z5.frozen 0
                    have y3 := z5.frozen 1
                    simp only [List.getElem?_cons_zero, List.getElem?_cons_succ] at y0 y1)))
        all_goals
          go_wp2
          go_meet
          first
            | exact ⟨_, pickN xa 6, pickN xb 6, rfl, by have := B6.size; omega, Blk.new w5 42 [_, _], B6.alloc B6.size _⟩
            | exact ⟨_, pickN xa 6, pickN xb 6, rfl, Nat.le_refl _, (z5.set 0 _).set 1 _, (B6.setCell (Nat.le_refl _) _).setCell (Nat.le_refl _) _⟩
            | exact ⟨_, pickN xa 6, pickN xb 6, rfl, by have := B6.size; omega, (Blk.new w5 42 [_, _]).drew, (B6.alloc B6.size _).drew⟩
      case rest =>
        obtain ⟨z, x, y, rfl, hz, hzb, B2⟩ := hcut
        have Q2 := Q1.new B2
        have bs2 := bs.below B2 hbs
        have hne : wr.heap.size ≠ z := by omega
        have hzs : ∀ j, Feet s r t q vs vr vt vq j → j ≠ z := fun j h => by have := Q1.lt h; omega
        have hzw : w.heap.size ≤ z := by have := Q1.bel.size; omega
        clear Q1 B2 hz c0 c1 c2 c3 bs
        have c0 := bs2.cell 0
        have c1 := bs2.cell 1
        have c2 := bs2.cell 2
        have c3 := bs2.cell 3
        have d0 := hzb.cell 0
        have d1 := hzb.cell 1
        simp only [List.getElem?_cons_zero, List.getElem?_cons_succ] at c0 c1 c2 c3 d0 d1
        go_upto_if 85 with (fail)
        go_cut [] from 63 to 209 (fun wx => ∃ (p1 p2 : Int), QuadZ w wx s r t q z vs vr vt vq M N a a b b p1 p2 ∧ (far = false → p1 ≤ p2) ∧ Blk wx wr.heap.size 67 [.int .i64 sw, .int .i64 xa, .int .i64 xb, .bool far])
        case first => as_aux_lemma =>
          cases far with
          | false =>
            go_wp2
            go_meet
            exact ⟨_, _, ⟨Q2, hzb, hzs⟩, fun _ => by omega, bs2⟩
          | true =>
            have e0 := hzb.frozen 0
            have e1 := hzb.frozen 1
            go_wp2
            have M3 := set2_mod wc z (.int .i64 xa) (.int .i64 xb)
            go_meet
            exact ⟨xa, xb, ⟨Q2.off M3 (fun j h e => hzs j h e) (fun j h e => by omega), (hzb.set 0 _).set 1 _, hzs⟩, fun h => (by cases h), bs2.mod M3 hne⟩
        case rest =>
          obtain ⟨p1, p2, QZ, hfar, bs3⟩ := hcut
          clear Q2 hzb hzs c0 c1 c2 c3 d0 d1 bs2 hne
          go_upto_region 17 with (fail)
          have hbs3 := bs3.lt
          have hzl := QZ.blk.lt
          obtain ⟨d0, d1⟩ := QZ.cells
          have c3 := bs3.cell 3
          have c0 := bs3.cell 0
          simp only [List.getElem?_cons_zero, List.getElem?_cons_succ] at c0 c3
          have Hfar := Lib.hid hfar
          have hgd := guard42
          clear hfar
          go_cut [102] from 63 to 209 (fun v wx => v = .bool false ∧ QuadZ w wx s r t q z vs vr vt vq M N a a b b p1 p2 ∧ Blk wx wr.heap.size 67 [.int .i64 sw, .int .i64 xa, .int .i64 xb, .bool far])
          case first => as_aux_lemma =>
            have hof := fun W => rof_any p1 p2 W
            by_cases h12 : p1 ≤ p2
            · have heq : ∀ w, (binOp .neq 42 (.agg #[.int .i64 p1, .int .i64 p2]) (.agg #[.int .i64 (min p1 p2), .int .i64 (max p1 p2)])).run Try.prog w = .ok (.bool false) w := fun w => by
                rw [nePair, show (p1, p2) = (min p1 p2, max p1 p2) by rw [Int.min_eq_left h12, Int.max_eq_right h12]]; simp
              generalize min p1 p2 = u at heq hof
              generalize max p1 p2 = v at heq hof
              have Hof := Lib.hid hof
              clear h12 hof
              first
                | (go_region_with
                     ((go_at_call 39
                       refine (Hof.out _).mono ?_; rintro e w5 ⟨rfl, B5⟩
                       have B6 : Below wc.heap.size wc w5 := ((Below.refl _ wc).drew).trans (B5.mono (by simp))
                       have k1 := (B6.cell (p := ⟨z, 0, none⟩) hzl).trans d0
                       have k2 := (B6.cell (p := ⟨z, 1, none⟩) hzl).trans d1)))
                | fail
              all_goals
                go_wp2
                go_meet
                exact ⟨rfl, QZ.new B6, bs3.below B6 hbs3⟩
            · have hfar : far = true := by
                cases far with
                | true => rfl
                | false => exact (h12 (Hfar.out rfl)).elim
              subst hfar
              have heq : ∀ w, (binOp .neq 42 (.agg #[.int .i64 p1, .int .i64 p2]) (.agg #[.int .i64 (min p1 p2), .int .i64 (max p1 p2)])).run Try.prog w = .ok (.bool true) w := fun w => by
                rw [nePair]; simp; omega
              generalize min p1 p2 = u at heq hof
              generalize max p1 p2 = v at heq hof
              have Hof := Lib.hid hof
              clear h12 hof
              first
                | (go_region_held3 (fun wx => wx.cell? ⟨z, 0, none⟩ = some (.int .i64 p1) ∧ wx.cell? ⟨z, 1, none⟩ = some (.int .i64 p2) ∧ wx.cell? ⟨wr.heap.size, 3, none⟩ = some (.bool true))
                     (go_keep)
                     ((go_at_call 39; refine (Hof.out _).mono ?_; rintro e w5 ⟨rfl, B5⟩
                       have B6 : Below wc.heap.size wc w5 := ((Below.refl _ wc).drew).trans (B5.mono (by simp))
                       have k1 := (B6.cell (p := ⟨z, 0, none⟩) hzl).trans d0
                       have k2 := (B6.cell (p := ⟨z, 1, none⟩) hzl).trans d1
                       have k3 := (B6.cell (p := ⟨wr.heap.size, 3, none⟩) hbs3).trans c3)))
                | fail
              all_goals
                go_wp2
                go_meet
                exact ⟨rfl, QZ.new B6, bs3.below B6 hbs3⟩
          case rest =>
            clear QZ bs3 c0 c3 d0 d1 hbs3 hzl
            obtain ⟨rfl, QZ, bs3⟩ := hcut
            have c0 := bs3.cell 0
            simp only [List.getElem?_cons_zero] at c0
            go_wp2_with fail
            refine (pick38_any sw 5 _ w1' w2' (by decide) (by decide)).mono ?_
            rintro e w6 ⟨rfl, rfl⟩
            obtain ⟨u1, u2⟩ := pickN_range (c := sw) (n := 5) (by decide)
            generalize pickN sw 5 = K at *
            clear c0 bs3
            go_upto_block 2 with (fail)
            have hpd := QZ.cells
            go_cut [17] from 63 to 209 (fun is wx => is = .bool true ∧ ∃ (vs vr : Value) (a : List Pr), QuadZ w wx s r t q z vs vr vt vq M N a a b b p1 p2)
            case first => as_aux_lemma =>
              obtain ⟨d0, d1⟩ := hpd
              have QZd := QZ.new ((Below.refl _ wc).drew)
              have hbd := QZd.quad.bel.size
              have hb0 := QZ.quad.bel.size
              rcases (show K = 3 ∨ K = 4 ∨ K = 0 ∨ K = 1 ∨ K = 2 by omega) with rfl | rfl | rfl | rfl | rfl
              · have hd1 := fun W v hs => drop_any s w.heap.size M v a (p1, p2) W hs
                have hd2 := fun W v hb hs => rdrop_any r w.heap.size M v a (p1, p2) W hb hs
                unfold DropPost at hd1
                generalize hasP a (p1, p2) = hh at hd1 hd2
                have e1 : (hh == hh) = true := by simp
                have Hd1 := Lib.hid hd1
                have Hd2 := Lib.hid hd2
                clear hd1 hd2
                go_wp2_with fail
                go_region_held3 (fun wx => wx.cell? ⟨z, 0, none⟩ = some (.int .i64 p1) ∧ wx.cell? ⟨z, 1, none⟩ = some (.int .i64 p2)) (go_keep)
                  (first
                    | (go_at_call 40; first
                        | (refine (Hd1.out _ _ QZ8.quad.ss).mono ?_
                           rintro e w7 ⟨rfl, v7, S7, m7, q7⟩
                           have QZ7 := QZ8.turnS S7 m7 q7
                           have QZe := QZ7
                           obtain ⟨k1, k2⟩ := QZ7.cells)
                        | (refine (Hd1.out _ _ QZd.quad.ss).mono ?_
                           rintro e w7 ⟨rfl, v7, S7, m7, q7⟩
                           have QZ7 := QZd.turnS S7 m7 q7
                           obtain ⟨k1, k2⟩ := QZ7.cells))
                    | (go_at_call 41; first
                        | (refine (Hd2.out _ _ QZ7.quad.bel.size QZ7.quad.sr).mono ?_
                           rintro e w8 ⟨rfl, v8, S8, m8, q8⟩
                           have QZ8 := QZ7.turnR S8 m8 q8
                           have QZe := QZ8
                           obtain ⟨k3, k4⟩ := QZ8.cells)
                        | (refine (Hd2.out _ _ hbd QZd.quad.sr).mono ?_
                           rintro e w8 ⟨rfl, v8, S8, m8, q8⟩
                           have QZ8 := QZd.turnR S8 m8 q8
                           obtain ⟨k3, k4⟩ := QZ8.cells)))
                all_goals
                  go_wp2
                  go_meet
                  exact ⟨rfl, _, _, _, QZe⟩
              · have hd1 := fun W v hs => without_any s w.heap.size M v a p1 W hs
                have hd2 := fun W v hb hs => rwithout_any r w.heap.size M v a p1 W hb hs
                unfold WoPost at hd1
                generalize ((a.length : Int) - ((woP a p1).length : Int)) = hh at hd1 hd2
                have e1 : (hh == hh) = true := by simp
                have Hd1 := Lib.hid hd1
                have Hd2 := Lib.hid hd2
                clear hd1 hd2
                go_wp2_with fail
                go_region_held3 (fun wx => wx.cell? ⟨z, 0, none⟩ = some (.int .i64 p1)) (go_keep)
                  (first
                    | (go_at_call 23; first
                        | (refine (Hd1.out _ _ QZ8.quad.ss).mono ?_
                           rintro e w7 ⟨rfl, v7, S7, m7, q7⟩
                           have QZ7 := QZ8.turnS S7 m7 q7
                           have QZe := QZ7
                           obtain ⟨k1, k2⟩ := QZ7.cells)
                        | (refine (Hd1.out _ _ QZd.quad.ss).mono ?_
                           rintro e w7 ⟨rfl, v7, S7, m7, q7⟩
                           have QZ7 := QZd.turnS S7 m7 q7
                           obtain ⟨k1, k2⟩ := QZ7.cells))
                    | (go_at_call 42; first
                        | (refine (Hd2.out _ _ QZ7.quad.bel.size QZ7.quad.sr).mono ?_
                           rintro e w8 ⟨rfl, v8, S8, m8, q8⟩
                           have QZ8 := QZ7.turnR S8 m8 q8
                           have QZe := QZ8
                           obtain ⟨k3, k4⟩ := QZ8.cells)
                        | (refine (Hd2.out _ _ hbd QZd.quad.sr).mono ?_
                           rintro e w8 ⟨rfl, v8, S8, m8, q8⟩
                           have QZ8 := QZd.turnR S8 m8 q8
                           obtain ⟨k3, k4⟩ := QZ8.cells)))
                all_goals
                  go_wp2
                  go_meet
                  exact ⟨rfl, _, _, _, QZe⟩
              all_goals
                have hd1 := put_any s w.heap.size M vs a (p1, p2) wc hb0 QZ.quad.ss
                have hd2 := fun W v hb hs => rput_any r w.heap.size M v a (p1, p2) W hb QZ.quad.ss.rising hs
                unfold PutPost at hd1
                unfold RPutPost at hd2
                generalize canPut M a (p1, p2) = hh at hd1 hd2
                generalize putE M a (p1, p2) = he at hd1 hd2
                have e1 : (hh == hh) = true := by simp
                have e2 : (he == he) = true := by simp
                have Hd1 := Lib.hid hd1
                have Hd2 := Lib.hid hd2
                clear hd1 hd2
                go_wp2_with fail
                refine Hd1.out.mono ?_
                rintro e w7 ⟨rfl, v7, S7, m7, q7⟩
                have QZ7 := QZ.turnS S7 m7 q7
                obtain ⟨k1, k2⟩ := QZ7.cells
                go_wp2_with fail
                refine (Hd2.out _ _ QZ7.quad.bel.size QZ7.quad.sr).mono ?_
                rintro e w8 ⟨rfl, v8, S8, m8, q8⟩
                have QZ8 := QZ7.turnR S8 m8 q8
                go_wp2
                go_meet
                exact ⟨rfl, _, _, _, QZ8⟩
            case rest =>
              clear QZ hpd
              obtain ⟨rfl, vs, vr, a, QZ⟩ := hcut
              have QS := QZ.swap
              clear QZ
              obtain ⟨qa, qc, hvq, _, _⟩ := QS.quad.sr.rd.shape
              subst hvq
              have hbl := QS.quad.ss.len
              go_wp2_with fail
              refine (beyond_any t w.heap.size N s w.heap.size M vt vs b a _ QS.quad.ss QS.quad.st).mono ?_
              rintro e wl ⟨oa, oc, rfl, ol, Bl⟩
              have QSl := QS.new Bl
              have hlen := beyP_le b a
              obtain ⟨ao6, cap6, ev6, _, _, D6⟩ := own_clip ol
              obtain ⟨rfl, -, -⟩ := Value.slice.inj ev6
              have Q1 : QuadL w wl t q s r z vt (.slice qa b.length qc) vs vr N M b b a a p1 p2 (.slice oa (beyP b a).length (beyP b a).length) (beyP b a) := ⟨QSl, D6.1⟩
              have hlo : ∀ j, Feet t q s r vt (.slice qa b.length qc) vs vr j → ∀ g, Value.ownBlock (.slice oa (beyP b a).length oc) = some g → j ≠ g := fun j hj g hg => by
                have := QS.quad.lt hj
                have := ownBlock_ge ol hg
                omega
              have hlw : ∀ g, Value.ownBlock (.slice oa (beyP b a).length oc) = some g → w.heap.size ≤ g := fun g hg => by
                have := QS.quad.bel.size
                have := ownBlock_ge ol hg
                omega
              have Hlo := Lib.hid hlo
              have Hlw := Lib.hid hlw
              clear QS Bl QSl D6 ev6 hlo hlw
              go_upto_region 31 with (fail)
              go_cut [199] from 63 to 209 (fun v wx => v = .bool false ∧ Below wl.heap.size wl wx)
              case first => as_aux_lemma =>
                clear Hlo Hlw ol
                have hh1 := fun W (h : SetAt W t w.heap.size vt N b) => has_any t w.heap.size N vt b (p1, p2) W h
                have hh2 := fun W (h : RefAt W q w.heap.size (.slice qa b.length qc) N b) => rhas_any q w.heap.size N _ b (p1, p2) W h
                generalize hasP b (p1, p2) = hh at hh1 hh2
                have e1 : (hh != hh) = false := by simp
                have Hh1 := Lib.hid hh1
                have Hh2 := Lib.hid hh2
                clear hh1 hh2
                have Q1d := Q1.new ((Below.refl _ wl).drew)
                obtain ⟨y1, y2, y3⟩ := Q1.cells
                have Bd : Below wl.heap.size wl wl.drew := (Below.refl _ wl).drew
                go_region_held3 (fun wx => wx.cell? ⟨z, 0, none⟩ = some (.int .i64 p1) ∧ wx.cell? ⟨z, 1, none⟩ = some (.int .i64 p2) ∧ wx.cell? ⟨q, 0, none⟩ = some (.slice qa b.length qc)) (go_keep)
                  (first
                    | (go_at_call 24; first
                        | ((with_reducible refine (Hh1.out _ Qb.qz.quad.ss).mono ?_)
                           rintro e wa ⟨rfl, Ba⟩
                           have Qa := Qb.new Ba
                           have Q2 := Qa
                           have C2 := Bb'.trans (Ba.mono Bb'.size)
                           obtain ⟨ka1, ka2, ka3⟩ := Qa.cells)
                        | ((with_reducible refine (Hh1.out _ Q1d.qz.quad.ss).mono ?_)
                           rintro e wa ⟨rfl, Ba⟩
                           have Qa := Q1d.new Ba
                           have Ba' := Bd.trans (Ba.mono Bd.size)
                           obtain ⟨ka1, ka2, ka3⟩ := Qa.cells))
                    | (go_at_call 44; first
                        | ((with_reducible refine (Hh2.out _ Qa.qz.quad.sr).mono ?_)
                           rintro e wb ⟨rfl, Bb⟩
                           have Qb := Qa.new Bb
                           have Q2 := Qb
                           have C2 := Ba'.trans (Bb.mono Ba'.size)
                           obtain ⟨kb1, kb2, kb3⟩ := Qb.cells)
                        | ((with_reducible refine (Hh2.out _ Q1d.qz.quad.sr).mono ?_)
                           rintro e wb ⟨rfl, Bb⟩
                           have Qb := Q1d.new Bb
                           have Bb' := Bd.trans (Bb.mono Bd.size)
                           obtain ⟨kb1, kb2, kb3⟩ := Qb.cells))
                    | (go_at_call 25; (with_reducible refine (plen_any t w.heap.size N vt b _ Q2.qz.quad.ss).mono ?_); rintro e w6 ⟨rfl, rfl⟩)
                    | (go_at_call 22; (with_reducible refine (allof_any t w.heap.size N vt b _ Q2.qz.quad.ss).mono ?_)
                       rintro e w3 ⟨ov3, rfl, o3, B3⟩
                       have Q3 := Q2.new B3
                       have C3 := C2.trans (B3.mono C2.size)
                       have R3 := Rd.of_own o3
                       obtain ⟨kc1, kc2, kc3⟩ := Q3.cells)
                    | (go_at_call 45; first
                        | ((with_reducible refine (rbeyond_any q w.heap.size N r w.heap.size M _ vr b a _ Q4.qz.quad.sr Q4.qz.quad.sq).mono ?_)
                           rintro e w5 ⟨ov5, rfl, o5, B5⟩
                           have Q5 := Q4.new B5
                           have C5 := C4.trans (B5.mono C4.size)
                           have R5 := Rd.of_own o5
                           obtain ⟨kd1, kd2, kd3⟩ := Q5.cells)
                        | ((with_reducible refine (rbeyond_nil r w.heap.size M vr a _ Q8.qz.quad.sq).mono ?_)
                           rintro e w9 ⟨ov9, rfl, o9, B9⟩
                           have Q9 := Q8.new B9
                           have C9 := C8.trans (B9.mono C8.size)
                           have R9 := Rd.of_own o9
                           have R8 := R8'.new B9
                           have Qz := Q9
                           have Cz := C9
                           obtain ⟨ke1, ke2, ke3⟩ := Q9.cells)
                        | ((with_reducible refine (rbeyond_nil r w.heap.size M vr a _ Q6.qz.quad.sq).mono ?_)
                           rintro e w9 ⟨ov9, rfl, o9, B9⟩
                           have Q9 := Q6.new B9
                           have C9 := C6.trans (B9.mono C6.size)
                           have R9' := Rd.of_own o9
                           obtain ⟨ke1, ke2, ke3⟩ := Q9.cells))
                    | (go_at_call 26; first
                        | ((with_reducible refine (beyond_nil s w.heap.size M vs a _ Q9.qz.quad.st).mono ?_)
                           rintro e w8 ⟨oa8, c8, rfl, o8, B8⟩
                           have Q8 := Q9.new B8
                           have C8 := C9.trans (B8.mono C9.size)
                           obtain ⟨ao8, cap8, ev8, _, _, D8⟩ := own_clip o8
                           obtain ⟨rfl, -, -⟩ := Value.slice.inj ev8
                           have R8 := D8.1
                           have R9 := R9'.new B8
                           have Qz := Q8
                           have Cz := C8
                           obtain ⟨kf1, kf2, kf3⟩ := Q8.cells)
                        | ((with_reducible refine (beyond_nil s w.heap.size M vs a _ Q6.qz.quad.st).mono ?_)
                           rintro e w8 ⟨oa8, c8, rfl, o8, B8⟩
                           have Q8 := Q6.new B8
                           have C8 := C6.trans (B8.mono C6.size)
                           obtain ⟨ao8, cap8, ev8, _, _, D8⟩ := own_clip o8
                           obtain ⟨rfl, -, -⟩ := Value.slice.inj ev8
                           have R8' := D8.1
                           obtain ⟨kf1, kf2, kf3⟩ := Q8.cells))
                    | (go_at_call 27; first
                        | ((with_reducible refine (same4_any _ _ _ (beyP a []) rfl _ R8 R9).mono ?_)
                           rintro e wy ⟨rfl, jy, rfl⟩
                           have Cy := Cz.trans ((Below.drewN' (Below.refl _ _) jy).mono Cz.size))
                        | ((with_reducible refine (same4_any _ _ _ (beyP b a) rfl _ Q5.rl R5).mono ?_)
                           rintro e w6 ⟨rfl, j6, rfl⟩
                           have Q6 := Q5.drewN j6
                           have C6 := C5.trans ((Below.drewN' (Below.refl _ _) j6).mono C5.size))
                        | ((with_reducible refine (same4_any _ _ _ b rfl _ R3 Q3.qz.quad.sr.rd).mono ?_)
                           rintro e w4 ⟨rfl, j4, rfl⟩
                           have Q4 := Q3.drewN j4
                           have C4 := C3.trans ((Below.drewN' (Below.refl _ _) j4).mono C3.size))))
                all_goals
                  go_wp2
                  go_meet
                  exact ⟨rfl, Cy⟩
              case rest =>
                obtain ⟨rfl, Bx⟩ := hcut
                have Qx := (Q1.new Bx).qz.quad
                have ox := own_new ol Bx
                clear Q1 Bx ol
                obtain ⟨L, hL⟩ : ∃ L, L = beyP b a := ⟨_, rfl⟩
                rw [← hL] at hlen Hlo Hlw ox ⊢
                clear hL
                have hL4 : L.length ≤ 4096 := by omega
                clear hlen
                rcases Nat.eq_zero_or_pos L.length with h0 | h0
                · rw [h0]
                  clear ox Hlo Hlw h0 hL4
                  go_wp2
                  go_loopw [23] (fun i wz => i = .int .i64 0 ∧ ∃ d, wz = wc.drewN d) (fun _ _ => 0)
                  case atStart => exact ⟨rfl, 0, rfl⟩
                  case round =>
                    obtain ⟨rfl, d, rfl⟩ := hrel
                    have Qy := Qx.new (Below.drewN' (Below.refl _ _) d)
                    go_wp2
                    exact ⟨⟨k + 1, t, q, s, r, vt, _, vs, vr, N, M, b, a, by omega, by omega, rfl, rfl, rfl, rfl, by simp, Qy⟩, by simp [intOf]; omega⟩
                · obtain ⟨g, cg, hg⟩ := own_shape ox (by omega)
                  simp only [Value.slice.injEq, true_and] at hg
                  obtain ⟨rfl, rfl⟩ := hg
                  obtain ⟨E, hcur, hE, hn1, hn2, hgb⟩ := own_cur ox
                  have hlo := fun j hj => Hlo.out j hj g rfl
                  have hlw := Hlw.out g rfl
                  have hll := pairs_len L
                  have hrow : L.length * 2 ≤ (pairCells L ++ E).length := by rw [List.length_append]; omega
                  obtain ⟨row, hrw⟩ : ∃ row, row = pairCells L ++ E := ⟨_, rfl⟩
                  rw [← hrw] at hcur hrow
                  have Hlo2 := Lib.hid hlo
                  clear hrw hE hn1 hn2 hgb ox Hlo Hlw hlo hll
                  obtain ⟨n, hn⟩ : ∃ n, n = L.length := ⟨_, rfl⟩
                  rw [← hn] at h0 hL4 hrow ⊢
                  clear hn
                  go_wp2
                  go_loopw [23] (fun i wz => ∃ (j : Nat) (row : List Value), j ≤ n ∧ i = .int .i64 j ∧ Blk wz g 42 row ∧ n * 2 ≤ row.length ∧ Mod (fun j => j = g) wc wz) (fun i _ => n - (intOf i).toNat)
                  case atStart => exact ⟨0, row, Nat.zero_le _, rfl, hcur, hrow, Mod.refl _ _⟩
                  case round =>
                    clear hcur hrow row
                    obtain ⟨j, row, hj, rfl, hcur, hrow, hM⟩ := hrel
                    by_cases hlt : j < n
                    · have hkI : (j : Int) < (n : Int) := by omega
                      have x0 := hcur.cell (j * 2)
                      rw [List.getElem?_eq_getElem (by omega)] at x0
                      have x1 := hcur.frozen (j * 2)
                      go_wp2
                      go_roundw
                      case rel => exact ⟨j + 1, row.set (j * 2) (.int .i64 (-9)), by omega, by go_num, hcur.set _ _, by rw [List.length_set]; exact hrow, hM.setCell (p := ⟨g, j * 2, none⟩) (fun _ => rfl) _⟩
                      case measure => simp [intOf]; omega
                    · obtain rfl : j = n := by omega
                      have hkI : ¬ (j : Int) < (j : Int) := by omega
                      have Qy := Qx.off hM (fun i hi e => Hlo2.out i hi e) (fun i hi e => by omega)
                      go_wp2
                      exact ⟨⟨k + 1, t, q, s, r, vt, _, vs, vr, N, M, b, a, by omega, by omega, rfl, rfl, rfl, rfl, by simp, Qy⟩, by simp [intOf]; omega⟩
    all_goals
      clear hr hb
      obtain ⟨ra, rc, hvr, _, _⟩ := Q.sr.rd.shape
      subst hvr
      obtain ⟨qa, qc, hvq, _, _⟩ := Q.sq.rd.shape
      subst hvq
      have c1 := Q.sr.head.cell 0
      have c2 := Q.sq.head.cell 0
      simp only [List.getElem?_cons_zero] at c1 c2
      have Qd := Q.new ((Below.refl _ wr).drew)
      have Bd : Below wr.heap.size wr wr.drew := (Below.refl _ wr).drew
      have hrl := Q.sr.head.lt
      have hql := Q.sq.head.lt
      go_wp2
      go_region_held3 (fun wx => wx.cell? ⟨r, 0, none⟩ = some (.slice ra a.length rc) ∧ wx.cell? ⟨q, 0, none⟩ = some (.slice qa b.length qc)) (go_keep)
        (first
          | (go_at_call 22; first
              | ((with_reducible refine (allof_any t w.heap.size N vt b _ Q2.st).mono ?_)
                 rintro e w3 ⟨ov3, rfl, o3, B3⟩
                 have Q3 := Q2.new B3
                 have C3 := C2.trans (B3.mono C2.size)
                 have R3 := Rd.of_own o3
                 have kc1 := (C3.cell (p := ⟨r, 0, none⟩) hrl).trans c1
                 have kc2 := (C3.cell (p := ⟨q, 0, none⟩) hql).trans c2)
              | ((with_reducible refine (allof_any s w.heap.size M vs a _ Qd.ss).mono ?_)
                 rintro e w1 ⟨ov1, rfl, o1, B1⟩
                 have Q1 := Qd.new B1
                 have C1 := Bd.trans (B1.mono Bd.size)
                 have R1 := Rd.of_own o1
                 have ka1 := (C1.cell (p := ⟨r, 0, none⟩) hrl).trans c1
                 have ka2 := (C1.cell (p := ⟨q, 0, none⟩) hql).trans c2))
          | (go_at_call 27; first
              | ((with_reducible refine (same4_any _ _ _ b rfl _ R3 Q3.sq.rd).mono ?_)
                 rintro e w4 ⟨rfl, j4, rfl⟩
                 have C4 := C3.trans ((Below.drewN' (Below.refl _ _) j4).mono C3.size))
              | ((with_reducible refine (same4_any _ _ _ a rfl _ R1 Q1.sr.rd).mono ?_)
                 rintro e w2 ⟨rfl, j2, rfl⟩
                 have Q2 := Q1.new (Below.drewN' (Below.refl _ _) j2)
                 have C2 := C1.trans ((Below.drewN' (Below.refl _ _) j2).mono C1.size))))
      all_goals
        go_wp2
        go_ret
        exact ⟨rfl, Q.bel.trans (C4.mono Q.bel.size)⟩
end Go.Proofs.Ytlcmjpligaiadaa
