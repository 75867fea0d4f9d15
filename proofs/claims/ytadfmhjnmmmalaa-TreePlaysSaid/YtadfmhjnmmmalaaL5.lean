/- Trees: TreeOrder, walked. -/
import Derived.Test.YtadfmhjnmmmalaaL4
namespace Go.Proofs.Ytadfmhjnmmmalaa
open Go.RowKit Go.Maps
set_option maxRecDepth 100000 in
set_option maxHeartbeats 4000000 in
theorem order4_any (lv : Value) (n : Nat) (bs : List Bx) (q : Bx) (w : World) (hbl : bs.length = n) (hb : Rd w lv n 6 (boxCells bs)) (hin : ∀ b ∈ bs, InB b) (hq : InB q) :
    Calls Try.prog 4 #[lv, boxV q] w fun e w' => e = .returned (.bool true) ∧ Below w.heap.size w w' := by
  obtain ⟨la, lc, rfl, l1, l2⟩ := hb.shape
  obtain ⟨N, hN⟩ : ∃ N : Nat, N = min n 50 := ⟨_, rfl⟩
  have hN1 : N ≤ n := by omega
  have hN2 : N ≤ 50 := by omega
  have hmin : min (n : Int) 50 = (N : Int) := by omega
  have hlN : (N : Int) ≤ (lc : Int) := by omega
  have B0 : Below w.heap.size w (w.alloc (.cells q.cells.toArray 34)) := (Below.refl _ w).alloc (Nat.le_refl _) _
  have bq0 := Blk.newAt (w := w) (b := w.heap.size) rfl 34 q.cells
  have hbN : N ≤ bs.length := by omega
  have HbN := Lib.hid hbN
  have HN := Lib.hid hN
  have Hin := Lib.hid hin
  have Hbl := Lib.hid hbl
  have Hhb := Lib.hid hb
  have Hq := Lib.hid hq
  clear hN hin hbl hb hq hbN
  go_enter Try.func4, Try.ntmps4
  go_wp2_with fail
  refine (awake8_any _).mono ?_
  rintro e w1 ⟨rfl, hB1⟩
  have hB1s := hB1.size
  simp only [World.size_alloc] at hB1s
  go_wp2_with fail
  refine (new9_any 128 (by decide) (by decide) w1).mono ?_
  rintro e w2 ⟨t, S, rfl, hT2, hB2, hS2⟩
  have hB2s := hB2.size
  go_wp2_with fail
  refine (new9_any 128 (by decide) (by decide) w2).mono ?_
  rintro e w3 ⟨u, U, rfl, hU3, hB3, hU3b⟩
  have hB3s := hB3.size
  have hTw : Two (w.heap.size + 1) w3 t u 128 (laidL 0 (wideTo bs 0)) (uL bs N 0) := by
    rw [u_zero bs HbN.out]
    exact ⟨S, U, hT2.below hB3, hU3, fun j hs hu => by have := hU3b j hu; have := hT2.lt j hs; omega, fun j hj => by have := hS2 j hj; omega, fun j hj => by have := hU3b j hj; omega⟩
  have hBx : Below (w.heap.size + 1) (w.alloc (.cells q.cells.toArray 34)) w3 := by
    have h1 : w.heap.size + 1 = (w.alloc (.cells q.cells.toArray 34)).heap.size := by simp
    rw [h1]
    exact hB1.trans ((hB2.trans (hB3.mono hB2s)).mono (by simp; omega))
  have bq3 := bq0.below hBx (Nat.lt_succ_self _)
  have hB : Below w.heap.size w w3 := B0.trans (hBx.mono (Nat.le_succ _))
  clear hB1 hB1s hB2 hB2s hB3 hB3s hT2 hU3 hS2 hU3b B0 bq0 hBx
  go_wp2_with fail
  go_loopw [10] (fun i wr => ∃ k : Nat, k ≤ N ∧ i = .int .i64 (k : Int) ∧ Two (w.heap.size + 1) wr t u 128 (laidL 0 (wideTo bs k)) (uL bs N k) ∧ Hid (Below w.heap.size w wr) ∧ Hid (Blk wr w.heap.size 34 q.cells)) (fun i _ => N - (intOf i).toNat)
  case atStart => exact ⟨0, Nat.zero_le _, rfl, hTw, Lib.hid hB, Lib.hid bq3⟩
  case round =>
    obtain ⟨k, hk, rfl, hT, HBr, HQr⟩ := hrel
    by_cases hkN : k < N
    · obtain ⟨j, hj⟩ : ∃ j : Nat, j = N - 1 - k := ⟨_, rfl⟩
      obtain ⟨x, hx⟩ : ∃ x, bs[k]? = some x := ⟨_, List.getElem?_eq_getElem (by have := HbN.out; omega)⟩
      obtain ⟨y, hy⟩ : ∃ y, bs[j]? = some y := ⟨_, List.getElem?_eq_getElem (by have := HbN.out; omega)⟩
      obtain ⟨b, off, rfl⟩ := Hhb.out.addr (by omega)
      have hkI : (k : Int) < (N : Int) := by omega
      have hjI : (N : Int) - 1 - (k : Int) = (j : Int) := by omega
      have hjN : (j : Int) < (N : Int) := by omega
      have Hx := Lib.hid hx
      have Hy := Lib.hid hy
      have Hj := Lib.hid hj
      have Hxi := Lib.hid (Hin.out x (List.mem_of_getElem? hx))
      have Hyi := Lib.hid (Hin.out y (List.mem_of_getElem? hy))
      clear hx hy hj
      have hsr := HBr.out.size
      obtain ⟨q0, q1, q2, q3, q4, q5⟩ := (Hhb.out.new HBr.out).box (by omega) Hx.out
      go_wp2_with fail
      refine (box11_any x Hxi.out wr).mono ?_
      rintro e w4 ⟨rfl, hB4⟩
      have hT4 := hT.new hB4
      have hs4 := hB4.size
      have HB4 := Lib.hid (HBr.out.trans (hB4.mono hsr))
      have HQ4 := Lib.hid (HQr.out.below hB4 HQr.out.lt)
      have hqs := HQr.out.lt
      clear q0 q1 q2 q3 q4 q5 hT hB4
      go_wp2_with fail
      refine (two_put (w.heap.size + 1) t u 128 _ _ ((k : Int) + 1) (by unfold In64; omega) (boxN x) w4 hT4 (by omega)).mono ?_
      rintro e w5 ⟨rfl, hT5, hB5⟩
      rw [put_wide Hx.out (by omega)] at hT5 ⊢
      have hs5 := hB5.size
      have HB5 := Lib.hid (HB4.out.trans (hB5.mono (Nat.le_succ _)))
      have HQ5 := Lib.hid (HQ4.out.below hB5 (Nat.lt_succ_self _))
      obtain ⟨q0, q1, q2, q3, q4, q5⟩ := (Hhb.out.new HB5.out).box (by omega) Hy.out
      clear hT4 hB5 HB4 HQ4
      go_wp2_with fail
      refine (box11_any y Hyi.out w5).mono ?_
      rintro e w6 ⟨rfl, hB6⟩
      have hT6 := hT5.new hB6
      have hs6 := hB6.size
      have HB6 := Lib.hid (HB5.out.trans (hB6.mono (by omega)))
      have HQ6 := Lib.hid (HQ5.out.below hB6 (by omega))
      clear q0 q1 q2 q3 q4 q5 hT5 hB6 HB5 HQ5
      have hNk : (j : Int) + 1 = ((N - k : Nat) : Int) := by omega
      have HNk := Lib.hid hNk
      clear hNk
      go_wp2_with fail
      refine (two_put (w.heap.size + 1) u t 128 _ _ ((j : Int) + 1) (by unfold In64; omega) (boxN y) w6 hT6.swap (by omega)).mono ?_
      rintro e w7 ⟨rfl, hT7, hB7⟩
      rw [HNk.out, u_front HbN.out hN2 (by omega)] at hT7 ⊢
      have hs7 := hB7.size
      have HB7 := Lib.hid (HB6.out.trans (hB7.mono (Nat.le_succ _)))
      have HQ7 := Lib.hid (HQ6.out.below hB7 (Nat.lt_succ_self _))
      obtain ⟨q0, q1, q2, q3, q4, q5⟩ := (Hhb.out.new HB7.out).box (by omega) Hx.out
      clear hT6 hB7 HB6 HQ6
      go_wp2_with fail
      refine (box11_any x Hxi.out w7).mono ?_
      rintro e w8 ⟨rfl, hB8⟩
      have hT8 := hT7.new hB8
      have hs8 := hB8.size
      have HB8 := Lib.hid (HB7.out.trans (hB8.mono (by omega)))
      have HQ8 := Lib.hid (HQ7.out.below hB8 (by omega))
      clear q0 q1 q2 q3 q4 q5 hT7 hB8 HB7 HQ7
      go_wp2_with fail
      refine (two_put (w.heap.size + 1) u t 128 _ _ (100 + (k : Int)) (by unfold In64; omega) (boxN x) w8 hT8 (by omega)).mono ?_
      rintro e w9 ⟨rfl, hT9, hB9⟩
      rw [u_back HbN.out hN2 (by omega) (by rw [← Hj.out]; exact Hy.out) Hx.out] at hT9 ⊢
      have HB9 := Lib.hid (HB8.out.trans (hB9.mono (Nat.le_succ _)))
      have HQ9 := Lib.hid (HQ8.out.below hB9 (Nat.lt_succ_self _))
      clear hT8 hB9 HB8 HQ8
      go_wp2
      go_roundw
      case rel => exact ⟨k + 1, by omega, by go_num, hT9.swap, HB9, HQ9⟩
      case measure => simp [intOf]; omega
    · obtain rfl : k = N := by omega
      rw [v_zero] at hT
      go_wp2_with fail
      go_loopw [12] (fun i wr => ∃ k' : Nat, k' ≤ k ∧ i = .int .i64 (k' : Int) ∧ Two (w.heap.size + 1) wr t u 128 (laidL 0 (wideTo bs k)) (vL bs k k') ∧ Hid (Below w.heap.size w wr) ∧ Hid (Blk wr w.heap.size 34 q.cells)) (fun i _ => k - (intOf i).toNat)
      case atStart => exact ⟨0, Nat.zero_le _, rfl, hT, HBr, HQr⟩
      case round =>
        obtain ⟨k', hk', rfl, hT5, HB5, HQ5⟩ := hrel
        have hqs := HQ5.out.lt
        by_cases hkN : k' < k
        · obtain ⟨x, hx⟩ : ∃ x, bs[k']? = some x := ⟨_, List.getElem?_eq_getElem (by have := HbN.out; omega)⟩
          obtain ⟨v1, v2⟩ := v_drop HbN.out hN2 hkN hx
          have hkI : (k' : Int) < (k : Int) := by omega
          have V1 := Lib.hid v1
          have V2 := Lib.hid v2
          clear v1 v2 hx
          go_wp2_with fail
          refine (two_drop (w.heap.size + 1) u t 128 _ _ (100 + (k' : Int)) (by unfold In64; omega) wr hT5.swap (by omega)).mono ?_
          rintro e w6 ⟨rfl, hT6, hB6⟩
          rw [V2.out] at hT6
          rw [V1.out]
          have HB6 := Lib.hid (HB5.out.trans (hB6.mono (Nat.le_succ _)))
          have HQ6 := Lib.hid (HQ5.out.below hB6 (Nat.lt_succ_self _))
          clear hT5 hB6 HB5 HQ5
          go_wp2
          go_roundw
          case rel => exact ⟨k' + 1, by omega, by go_num, hT6.swap, HB6, HQ6⟩
          case measure => simp [intOf]; omega
        · obtain rfl : k' = k := by omega
          rw [v_all bs HbN.out] at hT5
          obtain ⟨A, hA⟩ : ∃ A, A = laidL 0 (wideTo bs k') := ⟨_, rfl⟩
          rw [← hA] at hT5
          clear hA
          have hbk := HQ5.out
          have d0 : _ = some (Value.int .i64 q.x0) := hbk.cell 0
          have d1 : _ = some (Value.int .i64 q.y0) := hbk.cell 1
          have d2 : _ = some (Value.int .i64 q.z0) := hbk.cell 2
          have d3 : _ = some (Value.int .i64 q.x1) := hbk.cell 3
          have d4 : _ = some (Value.int .i64 q.y1) := hbk.cell 4
          have d5 : _ = some (Value.int .i64 q.z1) := hbk.cell 5
          clear hbk
          go_wp2_with fail
          refine (box11_any q Hq.out wr).mono ?_
          rintro e w6 ⟨rfl, hB6⟩
          have hT6 := hT5.new hB6
          have hs6 := hB6.size
          have HB6 := Lib.hid (HB5.out.trans (hB6.mono (by omega)))
          have hQ6 := HQ5.out.below hB6 hqs
          have f0 := hQ6.frozen 0
          have f1 := hQ6.frozen 1
          have f2 := hQ6.frozen 2
          have f3 := hQ6.frozen 3
          have f4 := hQ6.frozen 4
          have f5 := hQ6.frozen 5
          have c0 : _ = some (Value.int .i64 q.x0) := hQ6.cell 0
          have c1 : _ = some (Value.int .i64 q.y0) := hQ6.cell 1
          have c2 : _ = some (Value.int .i64 q.z0) := hQ6.cell 2
          have c3 : _ = some (Value.int .i64 q.x1) := hQ6.cell 3
          have c4 : _ = some (Value.int .i64 q.y1) := hQ6.cell 4
          have c5 : _ = some (Value.int .i64 q.z1) := hQ6.cell 5
          clear d0 d1 d2 d3 d4 d5 hT5 hB6 HB5 HQ5
          go_upto_region 19 with (fail)
          obtain ⟨ws, hws⟩ : ∃ ws, (((((w6.setCell ⟨w.heap.size, 0, none⟩ (.int .i64 (boxN q).x0)).setCell ⟨w.heap.size, 1, none⟩ (.int .i64 (boxN q).y0)).setCell ⟨w.heap.size, 2, none⟩ (.int .i64 (boxN q).z0)).setCell ⟨w.heap.size, 3, none⟩ (.int .i64 (boxN q).x1)).setCell ⟨w.heap.size, 4, none⟩ (.int .i64 (boxN q).y1)).setCell ⟨w.heap.size, 5, none⟩ (.int .i64 (boxN q).z1) = ws := ⟨_, rfl⟩
          have hMs : Mod (fun j => j = w.heap.size) w6 ws := by
            rw [← hws]
            exact (((((((Mod.refl (fun j => j = w.heap.size) w6).setCell (p := ⟨w.heap.size, 0, none⟩) (fun _ => rfl) _).setCell (p := ⟨w.heap.size, 1, none⟩) (fun _ => rfl) _).setCell (p := ⟨w.heap.size, 2, none⟩) (fun _ => rfl) _).setCell (p := ⟨w.heap.size, 3, none⟩) (fun _ => rfl) _).setCell (p := ⟨w.heap.size, 4, none⟩) (fun _ => rfl) _).setCell (p := ⟨w.heap.size, 5, none⟩) (fun _ => rfl) _)
          have hbs : Blk ws w.heap.size 34 (boxN q).cells := by
            rw [← hws]
            exact (((((hQ6.set 0 _).set 1 _).set 2 _).set 3 _).set 4 _).set 5 _
          have hBs : Below w.heap.size w ws := HB6.out.trans (hMs.below (B := w.heap.size) HB6.out.size (fun j h1 h2 => by omega))
          have hTs := hT6.mod hMs (fun j hj => by subst hj; exact Nat.lt_succ_self _)
          change Code.wp _ _ _ _ ((((((w6.setCell ⟨w.heap.size, 0, none⟩ (.int .i64 (boxN q).x0)).setCell ⟨w.heap.size, 1, none⟩ (.int .i64 (boxN q).y0)).setCell ⟨w.heap.size, 2, none⟩ (.int .i64 (boxN q).z0)).setCell ⟨w.heap.size, 3, none⟩ (.int .i64 (boxN q).x1)).setCell ⟨w.heap.size, 4, none⟩ (.int .i64 (boxN q).y1)).setCell ⟨w.heap.size, 5, none⟩ (.int .i64 (boxN q).z1))
          rw [hws]
          clear hws hMs hT6 HB6 hQ6 f0 f1 f2 f3 f4 f5 c0 c1 c2 c3 c4 c5
          have HQ : Hid (∀ W, Below ws.heap.size ws W → (fun wx => wx.cell? ⟨w.heap.size, 0, none⟩ = some (.int .i64 (boxN q).x0) ∧ wx.cell? ⟨w.heap.size, 1, none⟩ = some (.int .i64 (boxN q).y0) ∧ wx.cell? ⟨w.heap.size, 2, none⟩ = some (.int .i64 (boxN q).z0) ∧ wx.cell? ⟨w.heap.size, 3, none⟩ = some (.int .i64 (boxN q).x1) ∧ wx.cell? ⟨w.heap.size, 4, none⟩ = some (.int .i64 (boxN q).y1) ∧ wx.cell? ⟨w.heap.size, 5, none⟩ = some (.int .i64 (boxN q).z1)) W) := Lib.hid fun W hW => by
            have h := hbs.below hW hbs.lt
            exact ⟨h.cell 0, h.cell 1, h.cell 2, h.cell 3, h.cell 4, h.cell 5⟩
          have HBs := Lib.hid hBs
          have HT := Lib.hid (hTs.new ((Below.refl _ ws).drew))
          have hsz := hBs.size
          clear hbs hBs hTs
          have HBc := (Below.refl ws.heap.size ws).drew
          go_region_held3 (fun wx => wx.cell? ⟨w.heap.size, 0, none⟩ = some (.int .i64 (boxN q).x0) ∧ wx.cell? ⟨w.heap.size, 1, none⟩ = some (.int .i64 (boxN q).y0) ∧ wx.cell? ⟨w.heap.size, 2, none⟩ = some (.int .i64 (boxN q).z0) ∧ wx.cell? ⟨w.heap.size, 3, none⟩ = some (.int .i64 (boxN q).x1) ∧ wx.cell? ⟨w.heap.size, 4, none⟩ = some (.int .i64 (boxN q).y1) ∧ wx.cell? ⟨w.heap.size, 5, none⟩ = some (.int .i64 (boxN q).z1)) (with_reducible exact HQ.out _ HBc)
            (first
              | (go_at_call 18; with_reducible refine (two_find _ t u 128 A A (boxN q) _ HT.out).mono ?_; rintro e wn ⟨va, rfl, hva, hBn⟩; have Hva := Lib.hid hva; replace HT := Lib.hid (HT.out.new hBn); replace HBc := HBc.trans (hBn.mono HBc.size); clear hva)
              | (go_at_call 18; with_reducible refine (two_find _ u t 128 A A (boxN q) _ HT.out.swap).mono ?_; rintro e wn ⟨vb, rfl, hvb, hBn⟩; have Hvb := Lib.hid hvb; replace HT := Lib.hid (HT.out.new hBn); replace HBc := HBc.trans (hBn.mono HBc.size); replace Hva := Lib.hid (Hva.out.new hBn); clear hvb)
              | (go_at_call 17; with_reducible refine (handles17_any _ _ _ (foundL A (boxN q)) rfl _ Hva.out Hvb.out).mono ?_; rintro e wn ⟨rfl, jn, rfl⟩; replace HT := Lib.hid (HT.out.new (Below.drewN' (Below.refl _ _) jn)); replace HBc := Below.drewN' HBc jn)
              | (go_at_call 12; with_reducible refine (two_pairs _ t u 128 A A _ HT.out).mono ?_; rintro e wn ⟨vc, rfl, hvc, hBn⟩; have Hvc := Lib.hid hvc; replace HT := Lib.hid (HT.out.new hBn); replace HBc := HBc.trans (hBn.mono HBc.size); clear hvc)
              | (go_at_call 12; with_reducible refine (two_pairs _ u t 128 A A _ HT.out.swap).mono ?_; rintro e wn ⟨vd, rfl, hvd, hBn⟩; have Hvd := Lib.hid hvd; replace HT := Lib.hid (HT.out.new hBn); replace HBc := HBc.trans (hBn.mono HBc.size); replace Hvc := Lib.hid (Hvc.out.new hBn); clear hvd)
              | (go_at_call 15; with_reducible refine (pairs15_any _ _ _ (pairsL A) rfl _ Hvc.out Hvd.out).mono ?_; rintro e wn ⟨rfl, jn, rfl⟩; replace HT := Lib.hid (HT.out.new (Below.drewN' (Below.refl _ _) jn)); replace HBc := Below.drewN' HBc jn)
              | (go_at_call 19; with_reducible refine (two_len _ t u 128 A A _ HT.out).mono ?_; rintro e wn ⟨rfl, rfl⟩)
              | (go_at_call 19; with_reducible refine (two_len _ u t 128 A A _ HT.out.swap).mono ?_; rintro e wn ⟨rfl, rfl⟩))
          go_wp2
          go_ret
          exact ⟨rfl, HBs.out.trans (HBc.mono hsz)⟩
end Go.Proofs.Ytadfmhjnmmmalaa
