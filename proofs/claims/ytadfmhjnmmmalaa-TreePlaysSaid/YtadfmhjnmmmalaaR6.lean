/- Trees: the reference's Put, walked. -/
import Derived.Test.YtadfmhjnmmmalaaR5
namespace Go.Proofs.Ytadfmhjnmmmalaa
open Go.RowKit Go.Maps
theorem lf_one1 (h : Int) (g : Bx) : lfCells [(h, g)] = [.int .i64 h, .int .i64 g.x0, .int .i64 g.y0, .int .i64 g.z0, .int .i64 g.x1, .int .i64 g.y1, .int .i64 g.z1] := rfl
theorem lf_snoc (M : List Lf) (x : Lf) : lfCells (M ++ [x]) = lfCells M ++ encLf x := by simp [lfCells]
theorem grow_below {B : Nat} {w6 wr w7 : World} {row : Option Nat} {cs : Array Value} {ty : TypeId} (hBr : Below B w6 wr) (hs : B ≤ wr.heap.size) (hg : (wr.alloc (.cells cs ty)).grownBy w7 row) (hr : ∀ j, row = some j → B ≤ j) : Below B w6 w7 :=
  hBr.trans (((Below.refl B wr).alloc hs (.cells cs ty)).trans ⟨hg.os, hg.tape, hg.output, hg.size, fun j hj => hg.block j (by simp; omega) (fun e => by have := hr j e.symm; omega)⟩)
theorem enc_one (x : Lf) : ∀ u ∈ encLf x, u.oneCell' = true := fun u hu => lf_one [x] u (by simpa [lfCells] using hu)
set_option maxRecDepth 100000 in
set_option maxHeartbeats 4000000 in
theorem put27_any (q : Nat) (v : Value) (room : Nat) (L : List Lf) (hL : Rises L) (h : Int) (b : Bx) (w : World) (hR : Ref w q v room L) (hLen : L.length ≤ 1024) :
    Calls Try.prog 27 #[.pointer (some ⟨q, 0, none⟩), .int .i64 h, boxV b] w fun e w' => e = .returned (.int .i64 (putR room L h b).1) ∧ ∃ v', Ref w' q v' room (putR room L h b).2 ∧ Turn (RefS q v) (RefS q v') w w' := by
  obtain ⟨a, c, rfl, h1, h2⟩ := hR.shape
  obtain ⟨N, hN⟩ : ∃ N, N = L.length := ⟨_, rfl⟩
  have hN24 : N ≤ 1024 := by omega
  have B0 : Below w.heap.size w (w.alloc (.cells b.cells.toArray 34)) := (Below.refl _ w).alloc (Nat.le_refl _) _
  have hbk := Blk.newAt (w := w) (b := w.heap.size) rfl 34 b.cells
  have hown : ∀ W, Below w.heap.size w W → W.cell? ⟨q, 0, none⟩ = some (.slice a N c) ∧ W.cell? ⟨q, 1, none⟩ = some (.int .i64 (room : Int)) ∧ W.frozen? ⟨q, 0, none⟩ = false ∧ W.ownsRow 0 88 7 (.slice a N c) N (lfCells L) := fun W hW => by
    have h3 := hR.1.below hW hR.1.lt
    have h4 := h3.cell 0
    have h5 := h3.cell 1
    simp only [List.getElem?_cons_zero, List.getElem?_cons_succ] at h4 h5
    have h6 := own_new hR.2 hW
    rw [← hN] at h4 h6
    exact ⟨h4, h5, h3.frozen 0, h6⟩
  have hfail : ∀ r : Int, ∀ w', Below w.heap.size w w' → putR room L h b = (r, L) → (Ending.returned (.int .i64 r) = .returned (.int .i64 (putR room L h b).1) ∧ ∃ v', Ref w' q v' room (putR room L h b).2 ∧ Turn (RefS q (.slice a L.length c)) (RefS q v') w w') := fun r w' hW e => by
    rw [e]
    exact ⟨rfl, _, hR.below hW, Turn.of_below _ hW⟩
  have hlay : ∀ (w1 : World) (u : Value), Below w.heap.size w w1 → w1.ownsRow w.heap.size 88 7 u (insL L h (grownB b)).length (lfCells (insL L h (grownB b))) → putR room L h b = (0, insL L h (grownB b)) → (Ending.returned (.int .i64 0) = .returned (.int .i64 (putR room L h b).1) ∧ ∃ v', Ref (w1.setCell ⟨q, 0, none⟩ u) q v' room (putR room L h b).2 ∧ Turn (RefS q (.slice a L.length c)) (RefS q v') w (w1.setCell ⟨q, 0, none⟩ u)) := fun w1 u hW hu e => by
    rw [e]
    exact ⟨rfl, _, hR.lay hW hu⟩
  have HR := Lib.hid hR
  have HL := Lib.hid hL
  have HN := Lib.hid hN
  have Hown := Lib.hid hown
  have Hfail := Lib.hid hfail
  have Hlay := Lib.hid hlay
  have Hbk := Lib.hid hbk
  have HB0 := Lib.hid B0
  rw [← hN] at h1
  clear hL hLen hN hR hown hfail hlay hbk B0
  go_enter Try.func27, Try.ntmps27
  go_upto_region 1 with (fail)
  obtain ⟨w1, hw1⟩ : ∃ w1, w.alloc (.cells b.cells.toArray 34) = w1 := ⟨_, rfl⟩
  change Code.wp _ _ _ _ (w.alloc (.cells b.cells.toArray 34))
  rw [hw1] at Hbk HB0 ⊢
  clear hw1
  generalize hb5 : w.heap.size = b5 at Hbk ⊢
  have Hb5 := Lib.hid hb5
  clear hb5
  have d0 : _ = some (Value.int .i64 b.x0) := Hbk.out.cell 0
  have d1 : _ = some (Value.int .i64 b.y0) := Hbk.out.cell 1
  have d2 : _ = some (Value.int .i64 b.z0) := Hbk.out.cell 2
  have d3 : _ = some (Value.int .i64 b.x1) := Hbk.out.cell 3
  have d4 : _ = some (Value.int .i64 b.y1) := Hbk.out.cell 4
  have d5 : _ = some (Value.int .i64 b.z1) := Hbk.out.cell 5
  go_wp2_with fail
  refine (may39_any b w1).mono ?_
  rintro e w2 ⟨rfl, hB2⟩
  have Hbk2 := Lib.hid (Hbk.out.below hB2 Hbk.out.lt)
  have HB2 := Lib.hid (HB0.out.trans (hB2.mono HB0.out.size))
  clear d0 d1 d2 d3 d4 d5 hB2 Hbk
  cases hm : mayB b with
  | false =>
    have Hp : Hid (putR room L h b = (1, L)) := Lib.hid (by unfold putR; rw [if_pos (.inr (.inl hm))])
    clear hm
    by_cases hlt : h < 1
    · go_wp2
      go_ret
      exact Hfail.out _ _ HB2.out Hp.out
    · go_wp2
      go_ret
      exact Hfail.out _ _ HB2.out Hp.out
  | true =>
    have Hm := Lib.hid hm
    clear hm
    by_cases hlt : h < 1
    · have Hp : Hid (putR room L h b = (1, L)) := Lib.hid (by unfold putR; rw [if_pos (.inl hlt)])
      go_wp2
      go_ret
      exact Hfail.out _ _ HB2.out Hp.out
    · have hR2 := HR.out.below HB2.out
      go_wp2_with fail
      refine (place38_any q _ room L h w2 hR2).mono ?_
      rintro e w3 ⟨rfl, ⟨i, x, rfl, hx, hh⟩ | ⟨rfl, hn⟩⟩
      · have hs : hasL L h = true := by
          have h5 := (boxOf_some HL.out (h := h) (b := x.2)).2 (by rw [← hh]; exact List.mem_of_getElem? hx)
          unfold hasL
          rw [h5]
          rfl
        have Hp : Hid (putR room L h b = (1, L)) := Lib.hid (by unfold putR; rw [if_pos (.inr (.inr hs))])
        clear hs
        have hi0 : (0 : Int) ≤ (i : Int) := by omega
        clear hR2 hx hh
        go_wp2
        go_ret
        exact Hfail.out _ _ HB2.out Hp.out
      · have hs : hasL L h = false := by unfold hasL; rw [boxOf_none.2 hn]; rfl
        have hno : ¬ (h < 1 ∨ mayB b = false ∨ hasL L h = true) := by
          rintro (h3 | h3 | h3)
          · omega
          · rw [Hm.out] at h3; cases h3
          · rw [hs] at h3; cases h3
        have hp : putR room L h b = if room ≤ L.length then (80, L) else (0, insL L h (grownB b)) := by unfold putR; rw [if_neg hno]
        have Hn := Lib.hid hn
        have Hp := Lib.hid hp
        clear hR2 hs hno hp hn
        obtain ⟨c0, c1, -, -⟩ := Hown.out w3 HB2.out
        go_wp2_with fail
        go_quiet (fail)
        by_cases hfull : room ≤ N
        · have hfI : (room : Int) ≤ (N : Int) := by omega
          have hp2 : Hid (putR room L h b = (80, L)) := Lib.hid (by rw [Hp.out, if_pos (by rw [← HN.out]; exact hfull)])
          have HB3 := Lib.hid (Below.drewN' HB2.out nq)
          clear hfull
          go_wp2
          go_ret
          exact Hfail.out _ _ HB3.out hp2.out
        · have hfI : ¬ (room : Int) ≤ (N : Int) := by omega
          have hp2 : Hid (putR room L h b = (0, insL L h (grownB b))) := Lib.hid (by rw [Hp.out, if_neg (by rw [← HN.out]; exact hfull)])
          clear hfull
          have HB4 := Lib.hid (Below.drewN' HB2.out nq)
          have Hbk4 := Lib.hid (Hbk2.out.drewN nq)
          clear HB2 Hbk2 c0 c1
          generalize w3.drewN nq = w4 at HB4 Hbk4 ⊢
          have d0 : _ = some (Value.int .i64 b.x0) := Hbk4.out.cell 0
          have d1 : _ = some (Value.int .i64 b.y0) := Hbk4.out.cell 1
          have d2 : _ = some (Value.int .i64 b.z0) := Hbk4.out.cell 2
          have d3 : _ = some (Value.int .i64 b.x1) := Hbk4.out.cell 3
          have d4 : _ = some (Value.int .i64 b.y1) := Hbk4.out.cell 4
          have d5 : _ = some (Value.int .i64 b.z1) := Hbk4.out.cell 5
          go_wp2_with fail
          refine (grown41_any b Hm.out w4).mono ?_
          rintro e w5 ⟨rfl, hB5⟩
          obtain ⟨g, hg⟩ : ∃ g, g = grownB b := ⟨_, rfl⟩
          rw [← hg]
          rw [← hg] at hp2
          have Hg := Lib.hid hg
          have hB5' := HB4.out.trans (hB5.mono HB4.out.size)
          have hs5 := hB5'.size
          clear d0 d1 d2 d3 d4 d5 hg hB5 HB4 Hbk4
          go_upto_region 7 with (fail)
          have hbx : Blk (w5.alloc (.cells (encLf (h, g)).toArray 88)) w5.heap.size 88 (encLf (h, g)) := Blk.newAt rfl 88 (encLf (h, g))
          have hB6 := hB5'.alloc hs5 (.cells (encLf (h, g)).toArray 88)
          have hsz6 : (w5.alloc (.cells (encLf (h, g)).toArray 88)).heap.size = w5.heap.size + 1 := by simp
          obtain ⟨w6, hw6⟩ : ∃ w6, w5.alloc (.cells (encLf (h, g)).toArray 88) = w6 := ⟨_, rfl⟩
          change Code.wp _ _ _ _ (w5.alloc (.cells (encLf (h, g)).toArray 88))
          rw [hw6] at hbx hB6 hsz6 ⊢
          clear hw6 hB5'
          generalize w5.heap.size = bx at *
          obtain ⟨B, hBd⟩ : ∃ B, B = bx + 1 := ⟨_, rfl⟩
          rw [← hBd] at hsz6
          have HBd := Lib.hid hBd
          have HS6 := Lib.hid hsz6
          have HB6 := Lib.hid hB6
          have Hbx := Lib.hid hbx
          have hBw : w.heap.size ≤ B := by rw [← hsz6]; exact hB6.size
          have hB00 : Below B w6 w6 := Below.refl _ _
          clear hBd hsz6 hB6 hbx
          obtain ⟨i0, hi, hz0, hz1, hz2⟩ := info_parts info88
          go_wp2_with fail
          go_loopw [9, 10, 11] (fun v p i wr => ∃ k : Nat, k ≤ N ∧ i = .int .i64 (k : Int) ∧ p = .bool (decide (befL L h < k)) ∧ wr.ownsRow B 88 7 v (midL L h g k).length (lfCells (midL L h g k)) ∧ Below B w6 wr) (fun _ _ i _ => N - (intOf i).toNat)
          case atStart => exact ⟨0, Nat.zero_le _, rfl, by rw [decide_eq_false (by omega)], by rw [mid_zero]; exact World.ownsRow_nil _ _ _ _, hB00⟩
          case round =>
            clear hB00
            obtain ⟨k, hk, rfl, hp, hrow, hBr⟩ := hrel
            have hsB : B ≤ wr.heap.size := by rw [← HS6.out]; exact (show Below w6.heap.size w6 wr by rw [HS6.out]; exact hBr).size
            have HBw := Lib.hid (HB6.out.trans (hBr.mono hBw))
            obtain ⟨c0, -, fz, hrowq⟩ := Hown.out wr HBw.out
            have hxb := Hbx.out.below hBr (by have := HBd.out; omega)
            have e0 : _ = some (Value.int .i64 h) := hxb.cell 0
            have e1 : _ = some (Value.int .i64 g.x0) := hxb.cell 1
            have e2 : _ = some (Value.int .i64 g.y0) := hxb.cell 2
            have e3 : _ = some (Value.int .i64 g.z0) := hxb.cell 3
            have e4 : _ = some (Value.int .i64 g.x1) := hxb.cell 4
            have e5 : _ = some (Value.int .i64 g.y1) := hxb.cell 5
            have e6 : _ = some (Value.int .i64 g.z1) := hxb.cell 6
            obtain ⟨T, hT⟩ : ∃ T, T = (midL L h g k).length := ⟨_, rfl⟩
            have hTb : T ≤ 1025 := by have := mid_len L h g k; have := HN.out; omega
            rw [← hT] at hrow
            have HT := Lib.hid hT
            clear hT
            have HXB := Lib.hid hxb
            clear hxb
            by_cases hkN : k < N
            · obtain ⟨x, hx⟩ : ∃ x, L[k]? = some x := ⟨_, List.getElem?_eq_getElem (by rw [← HN.out]; exact hkN)⟩
              obtain ⟨z, zc, e9⟩ := own_addr hrowq (by omega)
              obtain ⟨rfl, -⟩ : a = some ⟨z, 0, none⟩ ∧ True := by cases e9; exact ⟨rfl, trivial⟩
              obtain ⟨q0, q1, q2, q3, q4, q5, q6⟩ := own_leaf hrowq hkN hx
              have hkI : (k : Int) < (N : Int) := by omega
              have hba := bef_at HL.out Hn.out hx
              have Hx := Lib.hid hx
              have Hba := Lib.hid hba
              have Hrow := Lib.hid hrow
              clear hx hrowq e9 hba
              rcases Nat.lt_trichotomy k (befL L h) with hc | hc | hc
              · have hx1 := Hba.out.1 hc
                have Hms := Lib.hid (mid_lt (g := g) hc Hx.out)
                rw [decide_eq_false (by omega)] at hp
                subst hp
                have HP : Hid (decide (befL L h < k + 1) = false) := Lib.hid (decide_eq_false (by omega))
                clear hc e0 e1 e2 e3 e4 e5 e6
                go_wp2_with (first
                  | (at_builtin; refine wpList_append_own_at _ rfl _ _ 65 rfl B 88 i0 (.agg #[.int .i64 0, .int .i64 0, .int .i64 0, .int .i64 0, .int .i64 0, .int .i64 0, .int .i64 0]) 7 56 Try.underlying65 hi hz0 hz1 hz2 rfl (by decide) _ T _ rfl (hrow.alloc _) ⟨wr.heap.size, 0, none⟩ 1 1 (encLf x) rfl rfl (World.news_of_block (cs := (encLf x).toArray) (t := 88) (fr := (0, 0)) (heap_alloc_new wr _)) (enc_one _) (by unfold maxLen; omega) (by omega) (by simp; omega) ?_; intro v1 w7 o7 hg7 _ _)
                  | go_in)
                have hrow2 : w7.ownsRow B 88 7 v1 (midL L h g (k + 1)).length (lfCells (midL L h g (k + 1))) := by
                  rw [Hms.out, lf_snoc, List.length_append, ← HT.out]
                  exact o7
                have hB7 := grow_below hBr hsB hg7 (fun j hj => ownBlock_ge Hrow.out hj)
                clear o7 hg7
                go_roundw
                case rel => exact ⟨k + 1, by omega, by go_num, by rw [HP.out], hrow2, hB7⟩
                case measure => simp [intOf]; omega
              · have hx1 := Hba.out.2 (by omega)
                have Hms := Lib.hid (mid_eq (g := g) hc.symm Hx.out)
                rw [decide_eq_false (by omega)] at hp
                subst hp
                have HP : Hid (decide (befL L h < k + 1) = true) := Lib.hid (decide_eq_true (by omega))
                clear hc
                go_upto_region 15 with (first
                  | (at_builtin; refine wpList_append_own_at _ rfl _ _ 65 rfl B 88 i0 (.agg #[.int .i64 0, .int .i64 0, .int .i64 0, .int .i64 0, .int .i64 0, .int .i64 0, .int .i64 0]) 7 56 Try.underlying65 hi hz0 hz1 hz2 rfl (by decide) _ T _ rfl (hrow.alloc _) ⟨wr.heap.size, 0, none⟩ 1 1 (encLf (h, g)) rfl rfl (World.news_of_block (cs := (encLf (h, g)).toArray) (t := 88) (fr := (0, 0)) (heap_alloc_new wr _)) (enc_one _) (by unfold maxLen; omega) (by omega) (by simp; omega) ?_; intro v1 w7 o7 hg7 _ _)
                  | go_in)
                have hB7 := grow_below hBr hsB hg7 (fun j hj => ownBlock_ge Hrow.out hj)
                have hs7 : B ≤ w7.heap.size := Nat.le_trans hsB (Nat.le_trans (by simp) hg7.size)
                have HBw7 := Lib.hid (HB6.out.trans (hB7.mono hBw))
                obtain ⟨c07, -, -, hrow7⟩ := Hown.out w7 HBw7.out
                obtain ⟨r0, r1, r2, r3, r4, r5, r6⟩ := own_leaf hrow7 hkN Hx.out
                clear e0 e1 e2 e3 e4 e5 e6 q0 q1 q2 q3 q4 q5 q6 c0 hg7 hrow7
                go_wp2_with (first
                  | (at_builtin; refine wpList_append_own_at _ rfl _ _ 65 rfl B 88 i0 (.agg #[.int .i64 0, .int .i64 0, .int .i64 0, .int .i64 0, .int .i64 0, .int .i64 0, .int .i64 0]) 7 56 Try.underlying65 hi hz0 hz1 hz2 rfl (by decide) _ (T + 1) _ rfl (o7.alloc _) ⟨w7.heap.size, 0, none⟩ 1 1 (encLf x) rfl rfl (World.news_of_block (cs := (encLf x).toArray) (t := 88) (fr := (0, 0)) (heap_alloc_new w7 _)) (enc_one _) (by unfold maxLen; omega) (by omega) (by simp; omega) ?_; intro v2 w8 o8 hg8 _ _)
                  | go_in)
                have hrow2 : w8.ownsRow B 88 7 v2 (midL L h g (k + 1)).length (lfCells (midL L h g (k + 1))) := by
                  rw [Hms.out, lf_snoc, lf_snoc, List.length_append, List.length_append, ← HT.out]
                  exact o8
                have hB8 := grow_below hB7 hs7 hg8 (fun j hj => ownBlock_ge o7 hj)
                clear o8 hg8 o7
                go_roundw
                case rel => exact ⟨k + 1, by omega, by go_num, by rw [HP.out], hrow2, hB8⟩
                case measure => simp [intOf]; omega
              · have hx1 := Hba.out.2 (by omega)
                have Hms := Lib.hid (mid_gt (g := g) hc Hx.out)
                rw [decide_eq_true hc] at hp
                subst hp
                have HP : Hid (decide (befL L h < k + 1) = true) := Lib.hid (decide_eq_true (by omega))
                clear hc e0 e1 e2 e3 e4 e5 e6
                go_wp2_with (first
                  | (at_builtin; refine wpList_append_own_at _ rfl _ _ 65 rfl B 88 i0 (.agg #[.int .i64 0, .int .i64 0, .int .i64 0, .int .i64 0, .int .i64 0, .int .i64 0, .int .i64 0]) 7 56 Try.underlying65 hi hz0 hz1 hz2 rfl (by decide) _ T _ rfl (hrow.alloc _) ⟨wr.heap.size, 0, none⟩ 1 1 (encLf x) rfl rfl (World.news_of_block (cs := (encLf x).toArray) (t := 88) (fr := (0, 0)) (heap_alloc_new wr _)) (enc_one _) (by unfold maxLen; omega) (by omega) (by simp; omega) ?_; intro v1 w7 o7 hg7 _ _)
                  | go_in)
                have hrow2 : w7.ownsRow B 88 7 v1 (midL L h g (k + 1)).length (lfCells (midL L h g (k + 1))) := by
                  rw [Hms.out, lf_snoc, List.length_append, ← HT.out]
                  exact o7
                have hB7 := grow_below hBr hsB hg7 (fun j hj => ownBlock_ge Hrow.out hj)
                clear o7 hg7
                go_roundw
                case rel => exact ⟨k + 1, by omega, by go_num, by rw [HP.out], hrow2, hB7⟩
                case measure => simp [intOf]; omega
            · obtain rfl : k = N := by omega
              have hmi := mid_ins HL.out Hn.out g
              rw [← HN.out] at hmi
              have hq1 := HR.out.1.lt
              have Hrow := Lib.hid hrow
              by_cases hc : befL L h < k
              · rw [if_pos hc] at hmi
                rw [decide_eq_true hc] at hp
                subst hp
                have hul : wr.ownsRow w.heap.size 88 7 u9 (insL L h g).length (lfCells (insL L h g)) := by
                  rw [hmi, ← HT.out]
                  exact own_base hrow hBw
                obtain ⟨sa, sc, rfl, -, -⟩ := (Rd.of_own hul).shape
                have Hul := Lib.hid hul
                clear hc hmi e0 e1 e2 e3 e4 e5 e6 hrow hrowq hul
                go_wp2
                go_ret
                rw [← Hg.out] at Hlay
                exact Hlay.out wr _ HBw.out Hul.out hp2.out
              · rw [if_neg hc] at hmi
                rw [decide_eq_false hc] at hp
                subst hp
                have Hmi := Lib.hid hmi
                clear hc hmi
                go_wp2_with (first
                  | (at_builtin; refine wpList_append_own_at _ rfl _ _ 65 rfl B 88 i0 (.agg #[.int .i64 0, .int .i64 0, .int .i64 0, .int .i64 0, .int .i64 0, .int .i64 0, .int .i64 0]) 7 56 Try.underlying65 hi hz0 hz1 hz2 rfl (by decide) _ T _ rfl (hrow.alloc _) ⟨wr.heap.size, 0, none⟩ 1 1 (encLf (h, g)) rfl rfl (World.news_of_block (cs := (encLf (h, g)).toArray) (t := 88) (fr := (0, 0)) (heap_alloc_new wr _)) (enc_one _) (by unfold maxLen; omega) (by omega) (by simp; omega) ?_; intro v1 w7 o7 hg7 _ _; obtain ⟨sa, sc, rfl, -, -⟩ := (Rd.of_own o7).shape; have hB7 := grow_below hBr hsB hg7 (fun j hj => ownBlock_ge Hrow.out hj); have HBw7 := Lib.hid (HB6.out.trans (hB7.mono hBw)); obtain ⟨c07, -, fz7, -⟩ := Hown.out w7 HBw7.out)
                  | go_in)
                have hul : w7.ownsRow w.heap.size 88 7 (.slice sa (T + 1) sc) (insL L h g).length (lfCells (insL L h g)) := by
                  rw [Hmi.out, lf_snoc, List.length_append, ← HT.out]
                  exact own_base o7 hBw
                go_ret
                rw [← Hg.out] at Hlay
                exact Hlay.out w7 _ HBw7.out hul hp2.out
end Go.Proofs.Ytadfmhjnmmmalaa
