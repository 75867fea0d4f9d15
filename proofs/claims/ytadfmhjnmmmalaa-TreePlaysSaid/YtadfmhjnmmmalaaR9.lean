/- Trees: TreePlays, walked. -/
import Derived.Test.YtadfmhjnmmmalaaR8
namespace Go.Proofs.Ytadfmhjnmmmalaa
open Go.RowKit Go.Maps
theorem duo_find (B t q room : Nat) (A L : List Lf) (w : World) (b : Bx) (hD : Duo B w t q room A L) :
    Calls Try.prog 18 #[.pointer (some ⟨t, 0, none⟩), boxV b] w fun e w' => ∃ ao cap, e = .returned (.slice ao (foundL A b).length (foundL A b).length) ∧ w'.ownsRow w.heap.size 30 1 (.slice ao (foundL A b).length cap) (foundL A b).length (ints (foundL A b)) ∧ Below w.heap.size w w' := by
  obtain ⟨S, v, h1, h2, h3, h4, h5⟩ := hD
  exact find18_own t S room A b w h1
theorem rd_tight {w : World} {ao : Option Addr} {n cap sz : Nat} {xs : List Value} (h : Rd w (.slice ao n cap) n sz xs) : Rd w (.slice ao n n) n sz xs := by
  obtain ⟨a, c, e, h1, h2, h3, h4⟩ := h
  cases e
  exact ⟨ao, n, rfl, h1, Nat.le_refl _, Nat.le_trans h2 h3, h4⟩
/-- A row of handles, whatever it holds. -/
def RowS (w : World) (base : Nat) (v : Value) (n : Nat) : Prop := ∃ xs, w.ownsRow base 30 1 v n xs
def PlayS (w : World) (t q room : Nat) (wx : World) : Prop := (∃ L, Duo w.heap.size wx t q room L L) ∧ Below w.heap.size w wx
set_option maxRecDepth 100000 in
set_option maxHeartbeats 8000000 in
theorem plays7_any (room : Int) (lv : Value) (n : Nat) (ss : List Stp) (w : World) (_hrm : In64 room) (hsl : ss.length = n) (hb : Rd w lv n 8 (stpCells ss)) (hin : ∀ s ∈ ss, GoodStp s) :
    Calls Try.prog 7 #[.int .i64 room, lv] w fun e w' => e = .returned (.bool true) ∧ Below w.heap.size w w' := by
  obtain ⟨la, lc, rfl, l1, l2⟩ := hb.shape
  have Hin := Lib.hid hin
  have Hsl := Lib.hid hsl
  have Hhb := Lib.hid hb
  clear hin hsl hb _hrm
  by_cases hbad : room < 1 ∨ 1024 < room
  · have Hbad := Lib.hid hbad
    clear hbad
    go_enter Try.func7, Try.ntmps7
    go_wp2_with fail
    refine (awake8_any w).mono ?_
    rintro e w1 ⟨rfl, hB1⟩
    go_wp2_with fail
    refine (new9_bad room Hbad.out w1).mono ?_
    rintro e w2 ⟨rfl, rfl⟩
    go_wp2_with fail
    refine (new23_bad room Hbad.out w1).mono ?_
    rintro e w2 ⟨rfl, rfl⟩
    go_wp2
    go_ret
    exact ⟨rfl, hB1⟩
  · obtain ⟨R, rfl⟩ : ∃ R : Nat, room = (R : Int) := ⟨room.toNat, by omega⟩
    have hR1 : 1 ≤ R := by omega
    have hR2 : R ≤ 1024 := by omega
    clear hbad
    go_enter Try.func7, Try.ntmps7
    go_wp2_with fail
    refine (awake8_any w).mono ?_
    rintro e w1 ⟨rfl, hB1⟩
    have hs1 := hB1.size
    go_wp2_with fail
    refine (new9_any R hR1 hR2 w1).mono ?_
    rintro e w2 ⟨t, S, rfl, hT2, hB2, hS2⟩
    have hs2 := hB2.size
    go_wp2_with fail
    refine (new23_any R hR1 hR2 w2).mono ?_
    rintro e w3 ⟨q, rfl, hQ3, hB3, hq3⟩
    have hS0 : PlayS w t q R w3 := by
      refine ⟨⟨[], S, _, hT2.below hB3, hQ3, fun j hs hj => ?_, fun j hj => by have := hS2 j hj; omega, fun j hj => ?_⟩, hB1.trans ((hB2.trans (hB3.mono hs2)).mono hs1)⟩
      · have := hT2.lt j hs
        rcases hj with rfl | hj
        · omega
        · cases hj
      · rcases hj with rfl | hj
        · omega
        · cases hj
    clear hB1 hs1 hT2 hB2 hS2 hs2 hQ3 hB3 hq3
    go_upto_block 0 with (fail)
    go_cut [] (fun wx => PlayS w t q R wx)
    case first =>
      go_wp2_with fail
      go_loopg [10] 200 (fun g i wr => ∃ k : Nat, g = 200 - k ∧ k ≤ n ∧ k ≤ 200 ∧ i = .int .i64 (k : Int) ∧ PlayS w t q R wr)
      case atStart => exact ⟨0, rfl, Nat.zero_le _, Nat.zero_le _, rfl, hS0⟩
      case round => as_aux_lemma =>
        clear hS0
        obtain ⟨k, hg, hk, hk2, rfl, ⟨L, hD⟩, hB⟩ := hrel
        have Hg := Lib.hid hg
        clear hg
        rcases (show (k < n ∧ k < 200) ∨ ¬ k < n ∨ (k < n ∧ ¬ k < 200) by omega) with ⟨hlt, hlt2⟩ | hlt | ⟨hlt, hlt2⟩
        · obtain ⟨s, hs⟩ : ∃ s, ss[k]? = some s := ⟨_, List.getElem?_eq_getElem (by rw [Hsl.out]; exact hlt)⟩
          obtain ⟨b, off, rfl⟩ := Hhb.out.addr (by omega)
          obtain ⟨⟨g1, g2⟩, ⟨g3, g4⟩, g5⟩ := Hin.out s (List.mem_of_getElem? hs)
          have Hs := Lib.hid hs
          clear hs
          obtain ⟨q0, q1, q2, q3, q4, q5, q6, q7⟩ := (Hhb.out.new hB).stp (by omega) Hs.out
          obtain ⟨sw, sh, sb⟩ := s
          simp only at g1 g2 g3 g4 g5 q0 q1 q2 q3 q4 q5 q6 q7
          have hkI : (k : Int) < (n : Int) := by omega
          have hkI2 : (k : Int) < 200 := by omega
          have Hg5 := Lib.hid g5
          have H64 : Hid (In64 sh) := Lib.hid ⟨g3, g4⟩
          have hbk : Blk (wr.alloc (.cells (encStp (sw, sh, sb)).toArray 56)) wr.heap.size 56 (encStp (sw, sh, sb)) := Blk.newAt rfl 56 (encStp (sw, sh, sb))
          have hB1 : Below wr.heap.size wr (wr.alloc (.cells (encStp (sw, sh, sb)).toArray 56)) := (Below.refl _ _).alloc (Nat.le_refl _) _
          have hD1 := hD.new hB1
          have hBw := hB.trans (hB1.mono hB.size)
          clear hD hB hB1 g5 g3 g4
          go_upto_region 12 with (fail)
          obtain ⟨w5, hw5⟩ : ∃ w5, wr.alloc (.cells (encStp (sw, sh, sb)).toArray 56) = w5 := ⟨_, rfl⟩
          change Code.wp _ _ _ _ (wr.alloc (.cells (encStp (sw, sh, sb)).toArray 56))
          rw [hw5] at hbk hD1 hBw ⊢
          clear hw5 q0 q1 q2 q3 q4 q5 q6 q7
          generalize wr.heap.size = b11 at *
          have c0 : _ = some (Value.int .i64 sw) := hbk.cell 0
          have c1 : _ = some (Value.int .i64 sh) := hbk.cell 1
          have HD := Lib.hid hD1
          have Hbk := Lib.hid hbk
          have HB := Lib.hid hBw
          have hsz := hBw.size
          clear hbk hD1 hBw
          obtain ⟨hL, hLn⟩ := HD.out.facts
          have HL := Lib.hid hL
          have HLn := Lib.hid hLn
          clear hL hLn
          go_wp2_with fail
          refine (pick13_any sw 6 w5 g1 g2 (by decide) (by decide)).mono ?_
          rintro e w6 ⟨rfl, rfl⟩
          obtain ⟨u1, u2⟩ := pickN_range (c := sw) (n := 6) (by decide)
          generalize pickN sw 6 = K at *
          go_upto_block 2 with (fail)
          go_cut [13, 14, 15, 16, 17, 18, 19] from 51 to 182 (fun v _ _ _ _ _ _ wx => v = .bool true ∧ ∃ L', Duo w.heap.size wx t q R L' L' ∧ Below w.heap.size w wx)
          case first => as_aux_lemma =>
            clear c0
            rcases (show K = 2 ∨ K = 3 ∨ K = 4 ∨ K = 5 ∨ K = 0 ∨ K = 1 by omega) with rfl | rfl | rfl | rfl | rfl | rfl
            · obtain ⟨m1, m2, L', hm⟩ : ∃ m1 m2 L', moveR L sh sb = (m1, m2, L') := ⟨_, _, _, rfl⟩
              have Hm := Lib.hid hm
              clear hm
              have d0 : _ = some (Value.int .i64 sb.x0) := Hbk.out.cell 2
              have d1 : _ = some (Value.int .i64 sb.y0) := Hbk.out.cell 3
              have d2 : _ = some (Value.int .i64 sb.z0) := Hbk.out.cell 4
              have d3 : _ = some (Value.int .i64 sb.x1) := Hbk.out.cell 5
              have d4 : _ = some (Value.int .i64 sb.y1) := Hbk.out.cell 6
              have d5 : _ = some (Value.int .i64 sb.z1) := Hbk.out.cell 7
              go_wp2_with fail
              refine (duo_move w.heap.size t q R L L sh w5 H64.out sb HD.out hsz).mono ?_
              rintro e w6 ⟨rfl, hD6, hB6, hk6⟩
              rw [Hm.out] at hD6 ⊢
              have HB6 := Lib.hid (HB.out.trans hB6)
              have Hbk6 := Lib.hid (hk6 b11 56 _ (.inl rfl) Hbk.out)
              have e1 : _ = some (Value.int .i64 sh) := Hbk6.out.cell 1
              have f0 : _ = some (Value.int .i64 sb.x0) := Hbk6.out.cell 2
              have f1 : _ = some (Value.int .i64 sb.y0) := Hbk6.out.cell 3
              have f2 : _ = some (Value.int .i64 sb.z0) := Hbk6.out.cell 4
              have f3 : _ = some (Value.int .i64 sb.x1) := Hbk6.out.cell 5
              have f4 : _ = some (Value.int .i64 sb.y1) := Hbk6.out.cell 6
              have f5 : _ = some (Value.int .i64 sb.z1) := Hbk6.out.cell 7
              have hs6 := HB6.out.size
              clear d0 d1 d2 d3 d4 d5 hB6 hk6
              go_wp2_with fail
              refine (duo_rmove w.heap.size t q R _ L sh w6 HL.out sb hD6 hs6).mono ?_
              rintro e w7 ⟨rfl, hD7, hB7, -⟩
              rw [Hm.out] at hD7 ⊢
              have HB7 := Lib.hid (HB6.out.trans hB7)
              have HD7 := Lib.hid hD7
              have hmm : (m2 == m2) = true := by simp
              clear f0 f1 f2 f3 f4 f5 e1 hD6 hB7 hD7 hs6
              cases m1
              all_goals
                go_wp2_with fail
                go_meet
                exact ⟨rfl, L', HD7.out, HB7.out⟩
            · obtain ⟨m1, m2, L', hm⟩ : ∃ m1 m2 L', moveR L sh sb = (m1, m2, L') := ⟨_, _, _, rfl⟩
              have Hm := Lib.hid hm
              clear hm
              have d0 : _ = some (Value.int .i64 sb.x0) := Hbk.out.cell 2
              have d1 : _ = some (Value.int .i64 sb.y0) := Hbk.out.cell 3
              have d2 : _ = some (Value.int .i64 sb.z0) := Hbk.out.cell 4
              have d3 : _ = some (Value.int .i64 sb.x1) := Hbk.out.cell 5
              have d4 : _ = some (Value.int .i64 sb.y1) := Hbk.out.cell 6
              have d5 : _ = some (Value.int .i64 sb.z1) := Hbk.out.cell 7
              go_wp2_with fail
              refine (duo_move w.heap.size t q R L L sh w5 H64.out sb HD.out hsz).mono ?_
              rintro e w6 ⟨rfl, hD6, hB6, hk6⟩
              rw [Hm.out] at hD6 ⊢
              have HB6 := Lib.hid (HB.out.trans hB6)
              have Hbk6 := Lib.hid (hk6 b11 56 _ (.inl rfl) Hbk.out)
              have e1 : _ = some (Value.int .i64 sh) := Hbk6.out.cell 1
              have f0 : _ = some (Value.int .i64 sb.x0) := Hbk6.out.cell 2
              have f1 : _ = some (Value.int .i64 sb.y0) := Hbk6.out.cell 3
              have f2 : _ = some (Value.int .i64 sb.z0) := Hbk6.out.cell 4
              have f3 : _ = some (Value.int .i64 sb.x1) := Hbk6.out.cell 5
              have f4 : _ = some (Value.int .i64 sb.y1) := Hbk6.out.cell 6
              have f5 : _ = some (Value.int .i64 sb.z1) := Hbk6.out.cell 7
              have hs6 := HB6.out.size
              clear d0 d1 d2 d3 d4 d5 hB6 hk6
              go_wp2_with fail
              refine (duo_rmove w.heap.size t q R _ L sh w6 HL.out sb hD6 hs6).mono ?_
              rintro e w7 ⟨rfl, hD7, hB7, -⟩
              rw [Hm.out] at hD7 ⊢
              have HB7 := Lib.hid (HB6.out.trans hB7)
              have HD7 := Lib.hid hD7
              have hmm : (m2 == m2) = true := by simp
              clear f0 f1 f2 f3 f4 f5 e1 hD6 hB7 hD7 hs6
              cases m1
              all_goals
                go_wp2_with fail
                go_meet
                exact ⟨rfl, L', HD7.out, HB7.out⟩
            · obtain ⟨r, hr⟩ : ∃ r : Int, (if hasL L sh then (0 : Int) else 81) = r := ⟨_, rfl⟩
              have Hr := Lib.hid hr
              clear hr
              go_wp2_with fail
              refine (duo_drop w.heap.size t q R L L sh w5 H64.out HD.out hsz).mono ?_
              rintro e w6 ⟨rfl, hD6, hB6, -⟩
              rw [Hr.out]
              have HB6 := Lib.hid (HB.out.trans hB6)
              have hs6 := HB6.out.size
              clear hB6
              go_wp2_with fail
              refine (duo_rdrop w.heap.size t q R _ L sh w6 HL.out HLn.out hD6 hs6).mono ?_
              rintro e w7 ⟨rfl, hD7, hB7, -⟩
              rw [Hr.out]
              have HB7 := Lib.hid (HB6.out.trans hB7)
              have HD7 := Lib.hid hD7
              have hmm : (r == r) = true := by simp
              clear hD6 hB7 hD7 hs6
              go_wp2_with fail
              go_meet
              exact ⟨rfl, _, HD7.out, HB7.out⟩
            · obtain ⟨F, hF⟩ : ∃ F, F = (foundL L sb).length := ⟨_, rfl⟩
              have hFb : F ≤ 1024 := by have := found_len L sb; have := HLn.out; omega
              have HF := Lib.hid hF
              clear hF
              have d0 : _ = some (Value.int .i64 sb.x0) := Hbk.out.cell 2
              have d1 : _ = some (Value.int .i64 sb.y0) := Hbk.out.cell 3
              have d2 : _ = some (Value.int .i64 sb.z0) := Hbk.out.cell 4
              have d3 : _ = some (Value.int .i64 sb.x1) := Hbk.out.cell 5
              have d4 : _ = some (Value.int .i64 sb.y1) := Hbk.out.cell 6
              have d5 : _ = some (Value.int .i64 sb.z1) := Hbk.out.cell 7
              go_wp2_with fail
              refine (duo_find w.heap.size t q R L L w5 sb HD.out).mono ?_
              rintro e w6 ⟨ao, cap, rfl, ho6, hB6⟩
              rw [← HF.out] at ho6 ⊢
              have HD6 := Lib.hid (HD.out.new hB6)
              have Hbk6 := Lib.hid (Hbk.out.below hB6 Hbk.out.lt)
              have f0 : _ = some (Value.int .i64 sb.x0) := Hbk6.out.cell 2
              have f1 : _ = some (Value.int .i64 sb.y0) := Hbk6.out.cell 3
              have f2 : _ = some (Value.int .i64 sb.z0) := Hbk6.out.cell 4
              have f3 : _ = some (Value.int .i64 sb.x1) := Hbk6.out.cell 5
              have f4 : _ = some (Value.int .i64 sb.y1) := Hbk6.out.cell 6
              have f5 : _ = some (Value.int .i64 sb.z1) := Hbk6.out.cell 7
              have HB6 := Lib.hid hB6
              have Ho6 := Lib.hid ho6
              clear d0 d1 d2 d3 d4 d5 hB6 ho6
              go_wp2_with fail
              refine (duo_rfind w.heap.size t q R L L w6 HLn.out sb HD6.out).mono ?_
              rintro e w7 ⟨v7, rfl, hv7, hB7⟩
              rw [← HF.out] at hv7
              obtain ⟨ya, yc, rfl, -, -⟩ := hv7.shape
              have ho7 := own_new Ho6.out hB7
              have hv6 := rd_tight (Rd.of_own ho7)
              have HB7 := Lib.hid (HB6.out.trans (hB7.mono HB6.out.size))
              clear f0 f1 f2 f3 f4 f5 hB7
              go_wp2_with fail
              refine (handles17_any _ _ F (foundL L sb) HF.out.symm w7 hv6 hv7).mono ?_
              rintro e w8 ⟨rfl, jn, rfl⟩
              have ho8 : (w7.drewN jn).ownsRow w5.heap.size 30 1 (.slice ao F cap) F (ints (foundL L sb)) := own_new ho7 (Below.drewN' (Below.refl _ _) jn)
              have hB8 := Below.drewN' HB7.out jn
              clear hv6 hv7 ho7 HB7 HB6 Ho6 HD6 Hbk6
              generalize w7.drewN jn = w8 at *
              go_wp2_with fail
              go_loopw [19] (fun i wx => ∃ j : Nat, j ≤ F ∧ i = .int .i64 (j : Int) ∧ RowS wx w5.heap.size (.slice ao F cap) F ∧ Below w5.heap.size w5 wx) (fun i _ => F - (intOf i).toNat)
              case atStart => exact ⟨0, Nat.zero_le _, rfl, ⟨_, ho8⟩, hB8⟩
              case round =>
                clear ho8 hB8
                obtain ⟨j, hj, rfl, ⟨xs, ho9⟩, hB9⟩ := hrel
                by_cases hjF : j < F
                · obtain ⟨z, zc, e9⟩ := own_addr ho9 (by omega)
                  obtain ⟨rfl, -⟩ : ao = some ⟨z, 0, none⟩ ∧ True := by cases e9; exact ⟨rfl, trivial⟩
                  have hjI : (j : Int) < (F : Int) := by omega
                  have hl9 : j < xs.length := by
                      have h9 : xs.length = F * 1 := ho9.1
                      rw [h9, Nat.mul_one]
                      exact hjF
                  have f0 := (Rd.of_own ho9).at (i := j) (by rw [Nat.mul_one]; exact hjF)
                  rw [Nat.zero_add, List.getElem?_eq_getElem hl9] at f0
                  have f1 := own_frozen ho9 j
                  have HO := Lib.hid (own_set ho9 hjF (.int .i64 (-9)))
                  have HB10 := Lib.hid (below_set hB9 hB9.size (ownBlock_ge ho9 (r := z) rfl) j (.int .i64 (-9)))
                  clear ho9 hB9 e9
                  go_wp2
                  go_roundw
                  case rel => exact ⟨j + 1, by omega, by go_num, ⟨_, HO.out⟩, HB10.out⟩
                  case measure => simp [intOf]; omega
                · obtain rfl : j = F := by omega
                  have HD9 := Lib.hid (HD.out.new hB9)
                  have HB9 := Lib.hid (HB.out.trans (hB9.mono hsz))
                  clear ho9 hB9
                  go_wp2_with fail
                  go_meet
                  exact ⟨rfl, L, HD9.out, HB9.out⟩
            · obtain ⟨r, L', hp⟩ : ∃ r L', putR R L sh sb = (r, L') := ⟨_, _, rfl⟩
              have Hp := Lib.hid hp
              clear hp
              have hmm : (r == r) = true := by simp
              go_upto_region 15 with (fail)
              have HQ : Hid (∀ W, Kept2 w5 W → (fun W => W.cell? ⟨b11, 2, none⟩ = some (.int .i64 sb.x0) ∧ W.cell? ⟨b11, 3, none⟩ = some (.int .i64 sb.y0) ∧ W.cell? ⟨b11, 4, none⟩ = some (.int .i64 sb.z0) ∧ W.cell? ⟨b11, 5, none⟩ = some (.int .i64 sb.x1) ∧ W.cell? ⟨b11, 6, none⟩ = some (.int .i64 sb.y1) ∧ W.cell? ⟨b11, 7, none⟩ = some (.int .i64 sb.z1)) W) := Lib.hid fun W hW => by
                have h := hW b11 56 _ (.inl rfl) Hbk.out
                exact ⟨h.cell 2, h.cell 3, h.cell 4, h.cell 5, h.cell 6, h.cell 7⟩
              have HKc : Kept2 w5 w5.drew := fun _ _ _ _ h => h
              have HDd := Lib.hid (HD.out.new ((Below.refl _ w5).drew))
              have HSz : Hid (w.heap.size ≤ w5.drew.heap.size) := Lib.hid hsz
              have HBd := Lib.hid (HB.out.drew)
              go_region_held3 (fun W => W.cell? ⟨b11, 2, none⟩ = some (.int .i64 sb.x0) ∧ W.cell? ⟨b11, 3, none⟩ = some (.int .i64 sb.y0) ∧ W.cell? ⟨b11, 4, none⟩ = some (.int .i64 sb.z0) ∧ W.cell? ⟨b11, 5, none⟩ = some (.int .i64 sb.x1) ∧ W.cell? ⟨b11, 6, none⟩ = some (.int .i64 sb.y1) ∧ W.cell? ⟨b11, 7, none⟩ = some (.int .i64 sb.z1)) (with_reducible exact HQ.out _ HKc)
                (first
                  | (go_at_call 10; with_reducible refine (duo_put w.heap.size t q R L L sh _ H64.out sb HDd.out HSz.out).mono ?_; rintro e wn ⟨rfl, hDn, hBn, hKn⟩; rw [Hp.out] at hDn ⊢; replace HKc := HKc.trans hKn; have HDn := Lib.hid hDn; have HBn := Lib.hid (HBd.out.trans hBn); have HSn := Lib.hid HBn.out.size; clear hDn hBn hKn)
                  | (go_at_call 27; with_reducible refine (duo_rput w.heap.size t q R _ L sh _ HL.out HLn.out sb HDn.out HSn.out).mono ?_; rintro e wm ⟨rfl, hDm, hBm, hKm⟩; rw [Hp.out] at hDm ⊢; replace HKc := HKc.trans hKm; have HDm := Lib.hid hDm; have HBm := Lib.hid (HBn.out.trans hBm); clear hDm hBm hKm))
              go_wp2_with fail
              go_meet
              exact ⟨rfl, L', HDm.out, HBm.out⟩
            · obtain ⟨r, L', hp⟩ : ∃ r L', putR R L sh sb = (r, L') := ⟨_, _, rfl⟩
              have Hp := Lib.hid hp
              clear hp
              have hmm : (r == r) = true := by simp
              go_upto_region 15 with (fail)
              have HQ : Hid (∀ W, Kept2 w5 W → (fun W => W.cell? ⟨b11, 2, none⟩ = some (.int .i64 sb.x0) ∧ W.cell? ⟨b11, 3, none⟩ = some (.int .i64 sb.y0) ∧ W.cell? ⟨b11, 4, none⟩ = some (.int .i64 sb.z0) ∧ W.cell? ⟨b11, 5, none⟩ = some (.int .i64 sb.x1) ∧ W.cell? ⟨b11, 6, none⟩ = some (.int .i64 sb.y1) ∧ W.cell? ⟨b11, 7, none⟩ = some (.int .i64 sb.z1)) W) := Lib.hid fun W hW => by
                have h := hW b11 56 _ (.inl rfl) Hbk.out
                exact ⟨h.cell 2, h.cell 3, h.cell 4, h.cell 5, h.cell 6, h.cell 7⟩
              have HKc : Kept2 w5 w5.drew := fun _ _ _ _ h => h
              have HDd := Lib.hid (HD.out.new ((Below.refl _ w5).drew))
              have HSz : Hid (w.heap.size ≤ w5.drew.heap.size) := Lib.hid hsz
              have HBd := Lib.hid (HB.out.drew)
              go_region_held3 (fun W => W.cell? ⟨b11, 2, none⟩ = some (.int .i64 sb.x0) ∧ W.cell? ⟨b11, 3, none⟩ = some (.int .i64 sb.y0) ∧ W.cell? ⟨b11, 4, none⟩ = some (.int .i64 sb.z0) ∧ W.cell? ⟨b11, 5, none⟩ = some (.int .i64 sb.x1) ∧ W.cell? ⟨b11, 6, none⟩ = some (.int .i64 sb.y1) ∧ W.cell? ⟨b11, 7, none⟩ = some (.int .i64 sb.z1)) (with_reducible exact HQ.out _ HKc)
                (first
                  | (go_at_call 10; with_reducible refine (duo_put w.heap.size t q R L L sh _ H64.out sb HDd.out HSz.out).mono ?_; rintro e wn ⟨rfl, hDn, hBn, hKn⟩; rw [Hp.out] at hDn ⊢; replace HKc := HKc.trans hKn; have HDn := Lib.hid hDn; have HBn := Lib.hid (HBd.out.trans hBn); have HSn := Lib.hid HBn.out.size; clear hDn hBn hKn)
                  | (go_at_call 27; with_reducible refine (duo_rput w.heap.size t q R _ L sh _ HL.out HLn.out sb HDn.out HSn.out).mono ?_; rintro e wm ⟨rfl, hDm, hBm, hKm⟩; rw [Hp.out] at hDm ⊢; replace HKc := HKc.trans hKm; have HDm := Lib.hid hDm; have HBm := Lib.hid (HBn.out.trans hBm); clear hDm hBm hKm))
              go_wp2_with fail
              go_meet
              exact ⟨rfl, L', HDm.out, HBm.out⟩
          case rest => as_aux_lemma =>
            clear HD Hbk HB HL HLn c0 c1 hsz
            obtain ⟨rfl, L', hD, hB⟩ := hcut
            obtain ⟨hL, hLn⟩ := hD.facts
            have hsz := hB.size
            obtain ⟨A, hA⟩ : ∃ A, A = (boxOf L' sh).getD noB := ⟨_, rfl⟩
            obtain ⟨x, hx⟩ : ∃ x, x = hasL L' sh := ⟨_, rfl⟩
            have HA := Lib.hid hA
            have Hx := Lib.hid hx
            have HL := Lib.hid hL
            have HLn := Lib.hid hLn
            clear hA hx hL hLn
            go_wp2_with fail
            refine (wide_own w.heap.size t R L' sh H64.out wc hD.tree).mono ?_
            rintro e w6 ⟨rfl, hB6⟩
            rw [← HA.out, ← Hx.out]
            have hbk6 : Blk (w6.alloc (.cells A.cells.toArray 34)) w6.heap.size 34 A.cells := Blk.newAt rfl 34 A.cells
            have hB7 : Below wc.heap.size wc (w6.alloc (.cells A.cells.toArray 34)) := hB6.alloc hB6.size _
            have hD7 := hD.new hB7
            have hB7' := hB.trans (hB7.mono hsz)
            clear hB6 hB7 hD hB
            go_upto_region 31 with (fail)
            obtain ⟨w7, hw7⟩ : ∃ w7, w6.alloc (.cells A.cells.toArray 34) = w7 := ⟨_, rfl⟩
            change Code.wp _ _ _ _ (w6.alloc (.cells A.cells.toArray 34))
            rw [hw7] at hbk6 hD7 hB7' ⊢
            clear hw7
            generalize w6.heap.size = b20 at *
            have hs7 := hB7'.size
            have H20' := Lib.hid hbk6
            have HB7 := Lib.hid hB7'
            clear hbk6 hB7'
            go_wp2_with fail
            refine (duo_rwide w.heap.size t q R L' L' sh w7 HL.out hD7).mono ?_
            rintro e w8 ⟨rfl, hB8⟩
            rw [← HA.out, ← Hx.out]
            have hbk8 : Blk (w8.alloc (.cells A.cells.toArray 34)) w8.heap.size 34 A.cells := Blk.newAt rfl 34 A.cells
            have hB9 : Below w7.heap.size w7 (w8.alloc (.cells A.cells.toArray 34)) := hB8.alloc hB8.size _
            have hD9 := hD7.new hB9
            have hB9' := HB7.out.trans (hB9.mono hs7)
            have hbk9 := H20'.out.below hB9 H20'.out.lt
            clear hB8 hB9 hD7 HB7 H20'
            go_upto_region 32 with (fail)
            obtain ⟨w9, hw9⟩ : ∃ w9, w8.alloc (.cells A.cells.toArray 34) = w9 := ⟨_, rfl⟩
            change Code.wp _ _ _ _ (w8.alloc (.cells A.cells.toArray 34))
            rw [hw9] at hbk8 hbk9 hD9 hB9' ⊢
            clear hw9
            generalize w8.heap.size = b22 at *
            have hs9 := hB9'.size
            have H20 := Lib.hid hbk9
            have H22 := Lib.hid hbk8
            have HD9 := Lib.hid hD9
            have HB9 := Lib.hid hB9'
            clear hbk8 hbk9 hD9 hB9'
            obtain ⟨N, hN⟩ : ∃ N, N = L'.length := ⟨_, rfl⟩
            obtain ⟨qa, qc, hql⟩ := duo_list HD9.out
            rw [← hN] at hql
            have HLC : Hid (∀ u : After w9, Calls Try.prog 19 #[.pointer (some ⟨t, 0, none⟩)] u.W fun e w' => e = .returned (.int .i64 (N : Int)) ∧ Below u.W.heap.size u.W w') := Lib.hid fun u => (len_own w.heap.size t R L' u.W ((HD9.out.new u.h).tree)).mono (by
              rintro e w' ⟨rfl, rfl⟩
              exact ⟨by rw [hN], Below.refl _ _⟩)
            have R0 : ∀ u : After w9, u.W.cell? ⟨q, 0, none⟩ = some (.slice qa N qc) := fun u => hql u.W u.h
            have p0 : ∀ u : After w9, u.W.cell? ⟨b20, 0, none⟩ = some (.int .i64 A.x0) := fun u => (H20.out.below u.h H20.out.lt).cell 0
            have p1 : ∀ u : After w9, u.W.cell? ⟨b20, 1, none⟩ = some (.int .i64 A.y0) := fun u => (H20.out.below u.h H20.out.lt).cell 1
            have p2 : ∀ u : After w9, u.W.cell? ⟨b20, 2, none⟩ = some (.int .i64 A.z0) := fun u => (H20.out.below u.h H20.out.lt).cell 2
            have p3 : ∀ u : After w9, u.W.cell? ⟨b20, 3, none⟩ = some (.int .i64 A.x1) := fun u => (H20.out.below u.h H20.out.lt).cell 3
            have p4 : ∀ u : After w9, u.W.cell? ⟨b20, 4, none⟩ = some (.int .i64 A.y1) := fun u => (H20.out.below u.h H20.out.lt).cell 4
            have p5 : ∀ u : After w9, u.W.cell? ⟨b20, 5, none⟩ = some (.int .i64 A.z1) := fun u => (H20.out.below u.h H20.out.lt).cell 5
            have r0 : ∀ u : After w9, u.W.cell? ⟨b22, 0, none⟩ = some (.int .i64 A.x0) := fun u => (H22.out.below u.h H22.out.lt).cell 0
            have r1 : ∀ u : After w9, u.W.cell? ⟨b22, 1, none⟩ = some (.int .i64 A.y0) := fun u => (H22.out.below u.h H22.out.lt).cell 1
            have r2 : ∀ u : After w9, u.W.cell? ⟨b22, 2, none⟩ = some (.int .i64 A.z0) := fun u => (H22.out.below u.h H22.out.lt).cell 2
            have r3 : ∀ u : After w9, u.W.cell? ⟨b22, 3, none⟩ = some (.int .i64 A.x1) := fun u => (H22.out.below u.h H22.out.lt).cell 3
            have r4 : ∀ u : After w9, u.W.cell? ⟨b22, 4, none⟩ = some (.int .i64 A.y1) := fun u => (H22.out.below u.h H22.out.lt).cell 4
            have r5 : ∀ u : After w9, u.W.cell? ⟨b22, 5, none⟩ = some (.int .i64 A.z1) := fun u => (H22.out.below u.h H22.out.lt).cell 5
            have hnA : ∀ W, (binOp .neq 34 (boxV A) (boxV A)).run Try.prog W = .ok (.bool false) W := fun W => by rw [neBox]; simp
            have hgd := guard34
            have hxx : (x != x) = false := by simp
            have hNN : ((N : Int) != (N : Int)) = false := by simp
            clear hql hN
            refine wp_region_after (by kernel_rfl) (by kernel_rfl) ?_
            repeat (go_big_quiet_step ((go_at_call 19; exact calls_after _ (HLC.out _))))
            refine wpQuiet_nil ?_
            intro w10 hw10
            obtain ⟨u10, rfl⟩ := hw10
            have HD10 := Lib.hid (HD9.out.new u10.h)
            have HB10 := Lib.hid (HB9.out.trans (u10.h.mono hs9))
            clear R0 p0 r0 p1 r1 p2 r2 p3 r3 p4 r4 p5 r5 hnA hgd hxx hNN HLC H20 H22 HD9 HB9 hs9
            generalize u10.W = wt at *
            have htm : Int.tmod (k : Int) 4 = ((k % 4 : Nat) : Int) := (Int.ofNat_tmod k 4).symm
            by_cases hr0 : k % 4 = 0
            · have hrem : Int.tmod (k : Int) 4 = 0 := by rw [htm, hr0]; rfl
              have hD11 := HD10.out
              have hs10 := HB10.out.size
              clear htm hr0
              go_wp2_with fail
              refine (pairs_own w.heap.size t R L' wt hD11.tree).mono ?_
              rintro e w5 ⟨v5, rfl, hv5, -, hB5⟩
              have hD5 := hD11.new hB5
              have HB5 := Lib.hid (HB10.out.trans (hB5.mono hs10))
              have hs5 := HB5.out.size
              obtain ⟨P, hP⟩ : ∃ P, P = (pairsL L').length := ⟨_, rfl⟩
              rw [← hP] at hv5
              obtain ⟨xa, xc, rfl, -, -⟩ := hv5.1.shape
              have HP := Lib.hid hP
              have Hv5 := Lib.hid hv5.1
              clear hv5 hP hD11 hB5 hs10 HB10 HD10
              go_wp2_with fail
              refine (duo_rpairs w.heap.size t q R L' L' w5 HL.out HLn.out hD5).mono ?_
              rintro e w6 ⟨v6, rfl, hv6, hB6⟩
              rw [← HP.out] at hv6
              obtain ⟨ya, yc, rfl, -, -⟩ := hv6.shape
              have hv5' := Hv5.out.new hB6
              have HB6 := Lib.hid (HB5.out.trans (hB6.mono hs5))
              have hD6 := hD5.new hB6
              clear hB6 HB5 hD5
              go_wp2_with fail
              refine (pairs15_any _ _ P (pairsL L') HP.out.symm w6 hv5' hv6).mono ?_
              rintro e w7 ⟨rfl, jn, rfl⟩
              have HDz := Lib.hid (hD6.new (Below.drewN' (Below.refl _ _) jn))
              have HBz := Lib.hid (Below.drewN' HB6.out jn)
              clear hv5' hv6 hD6 HB6
              go_wp2
              go_roundg (200 - (k + 1))
              case measure => have := Hg.out; omega
              case rel => exact ⟨k + 1, rfl, by omega, by omega, by go_num, ⟨L', HDz.out⟩, HBz.out⟩
            · obtain ⟨r, hr⟩ : ∃ r : Nat, r = k % 4 := ⟨_, rfl⟩
              have hrem : Int.tmod (k : Int) 4 = (r : Int) := by rw [htm, hr]
              have e0 : ((r : Int) == 0) = false := by
                rw [beq_eq_false_iff_ne]
                omega
              clear htm hr0 hr
              go_wp2
              go_roundg (200 - (k + 1))
              case measure => have := Hg.out; omega
              case rel => exact ⟨k + 1, rfl, by omega, by omega, by go_num, ⟨L', HD10.out⟩, HB10.out⟩
        · go_wp2_with fail
          go_meet
          exact ⟨⟨L, hD⟩, hB⟩
        · go_wp2_with fail
          go_meet
          exact ⟨⟨L, hD⟩, hB⟩
    case rest => as_aux_lemma =>
      clear hS0
      obtain ⟨⟨L, hD⟩, hB⟩ := hcut
      obtain ⟨hL, hn⟩ := hD.facts
      have hsz := hB.size
      go_wp2_with fail
      refine (pairs_own w.heap.size t R L wc hD.tree).mono ?_
      rintro e w5 ⟨v5, rfl, hv5, -, hB5⟩
      have hD5 := hD.new hB5
      have hB5' := hB.trans (hB5.mono hsz)
      have hs5 := hB5'.size
      obtain ⟨P, hP⟩ : ∃ P, P = (pairsL L).length := ⟨_, rfl⟩
      rw [← hP] at hv5
      obtain ⟨xa, xc, rfl, -, -⟩ := hv5.1.shape
      have HP := Lib.hid hP
      have Hv5 := Lib.hid hv5.1
      clear hv5 hP hD hB hB5
      go_wp2_with fail
      refine (duo_rpairs w.heap.size t q R L L w5 hL hn hD5).mono ?_
      rintro e w6 ⟨v6, rfl, hv6, hB6⟩
      rw [← HP.out] at hv6
      obtain ⟨ya, yc, rfl, -, -⟩ := hv6.shape
      have hv5' := Hv5.out.new hB6
      have HB6 := Lib.hid (hB5'.trans (hB6.mono hs5))
      clear hB6 hB5' hD5
      go_wp2_with fail
      refine (pairs15_any _ _ P (pairsL L) HP.out.symm w6 hv5' hv6).mono ?_
      rintro e w7 ⟨rfl, jn, rfl⟩
      go_wp2
      go_ret
      exact ⟨rfl, Below.drewN' HB6.out jn⟩
end Go.Proofs.Ytadfmhjnmmmalaa
