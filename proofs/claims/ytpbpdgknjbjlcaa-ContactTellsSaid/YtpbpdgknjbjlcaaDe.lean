/- Contacts: Touch where it says no. -/
import Derived.Test.YtpbpdgknjbjlcaaDd
import Derived.Test.YtpbpdgknjbjlcaaCe
namespace Go.Proofs.Ytpbpdgknjbjlcaa
open Go.RowKit
theorem apart_zero (pva ava eva : Value) (a : Cor) (w : World) (blk : Nat) (pa : Rd w pva a.P.length 3 (ptCells a.P)) (aa : Rd w ava a.A.length 3 (ptCells a.A)) (ea : Rd w eva a.E.length 3 (ptCells a.E)) (hb : Blk w blk 26 [.int .i64 0, .int .i64 0, .int .i64 0]) :
    Calls Try.prog 8 #[corV pva ava eva a.r, .agg #[.slice (some ⟨blk, 0, none⟩) 1 1, .slice none 0 0, .slice none 0 0, .int .i64 0]] w fun e w' => (∃ p g, e = .returned (.tuple #[apV p g, .bool (mayB a)])) ∧ Below w.heap.size w w' := by
  have h := apart8_any pva ava eva (.slice (some ⟨blk, 0, none⟩) 1 1) (.slice none 0 0) (.slice none 0 0) a ⟨[⟨0, 0, 0⟩], [], [], 0⟩ w pa aa ea (blk_rd hb rfl (by decide)) (Rd.nil w none 0 3 (by decide)) (Rd.nil w none 0 3 (by decide))
  have hm : mayB ⟨[⟨0, 0, 0⟩], [], [], 0⟩ = true := by decide
  rw [hm, Bool.and_true] at h
  exact h
/-- Whether two cores may touch at all. -/
noncomputable def goB (a b : Cor) (n : Pt) (gap within : Int) : Bool := mayB a && mayB b && !(smallP n == 0) && decide (gap ≤ within) && nearB 1048576 n
abbrev patV (p : Pt) (s : Value) : Value := .agg #[.int .i64 p.x, .int .i64 p.y, .int .i64 p.z, s]
set_option maxRecDepth 100000 in
set_option maxHeartbeats 1000000 in
theorem touch5_no (pva ava eva pvb avb evb : Value) (a b : Cor) (n : Pt) (gap within : Int) (w : World) (pa : Rd w pva a.P.length 3 (ptCells a.P)) (aa : Rd w ava a.A.length 3 (ptCells a.A)) (ea : Rd w eva a.E.length 3 (ptCells a.E)) (pb : Rd w pvb b.P.length 3 (ptCells b.P)) (ab : Rd w avb b.A.length 3 (ptCells b.A)) (eb : Rd w evb b.E.length 3 (ptCells b.E)) (hgo : goB a b n gap within = false) :
    Calls Try.prog 5 #[corV pva ava eva a.r, corV pvb avb evb b.r, apV n gap, .int .i64 within] w fun e w' => e = .returned (.tuple #[patV ⟨0, 0, 0⟩ (.slice none 0 0), .bool false]) ∧ Below w.heap.size w w' := by
  have HG := Lib.hid hgo
  obtain ⟨sm, hsm⟩ : ∃ v, v = smallP n := ⟨_, rfl⟩
  obtain ⟨up, hup⟩ : ∃ v, v = upP n := ⟨_, rfl⟩
  have HSm := Lib.hid hsm
  have HUp := Lib.hid hup
  clear hsm hup hgo
  have HA : Hid (∀ W blk, Below w.heap.size w W → Blk W blk 26 [.int .i64 0, .int .i64 0, .int .i64 0] → Calls Try.prog 8 #[corV pva ava eva a.r, .agg #[.slice (some ⟨blk, 0, none⟩) 1 1, .slice none 0 0, .slice none 0 0, .int .i64 0]] W fun e W' => (∃ p g, e = .returned (.tuple #[apV p g, .bool (mayB a)])) ∧ Below W.heap.size W W') := Lib.hid fun W blk hW hb => apart_zero pva ava eva a W blk (pa.new hW) (aa.new hW) (ea.new hW) hb
  have HB : Hid (∀ W blk, Below w.heap.size w W → Blk W blk 26 [.int .i64 0, .int .i64 0, .int .i64 0] → Calls Try.prog 8 #[corV pvb avb evb b.r, .agg #[.slice (some ⟨blk, 0, none⟩) 1 1, .slice none 0 0, .slice none 0 0, .int .i64 0]] W fun e W' => (∃ p g, e = .returned (.tuple #[apV p g, .bool (mayB b)])) ∧ Below W.heap.size W W') := Lib.hid fun W blk hW hb => apart_zero pvb avb evb b W blk (pb.new hW) (ab.new hW) (eb.new hW) hb
  obtain ⟨w1, hw1⟩ : ∃ w1, ((((w.alloc (.cells [pva, ava, eva, .int .i64 a.r].toArray 24)).alloc (.cells [pvb, avb, evb, .int .i64 b.r].toArray 24)).alloc (.cells [.int .i64 n.x, .int .i64 n.y, .int .i64 n.z, .int .i64 gap].toArray 28)).alloc (.cells [.int .i64 0, .int .i64 0, .int .i64 0, .slice none 0 0].toArray 32)).alloc (.cells n.cells.toArray 26) = w1 := ⟨_, rfl⟩
  obtain ⟨c0, hc0⟩ : ∃ c, c = w.heap.size := ⟨_, rfl⟩
  have B0 : Below w.heap.size w w1 := by rw [← hw1]; exact (((((Below.refl _ w).alloc (Nat.le_refl _) _).alloc (by simp) _).alloc (by simp; omega) _).alloc (by simp; omega) _).alloc (by simp; omega) _
  have hb0 : Blk w1 c0 24 [pva, ava, eva, .int .i64 a.r] := by rw [← hw1, hc0]; exact ((((Blk.newAt (w := w) rfl 24 [pva, ava, eva, .int .i64 a.r]).alloc _).alloc _).alloc _).alloc _
  have hb1 : Blk w1 (c0 + 1) 24 [pvb, avb, evb, .int .i64 b.r] := by rw [← hw1, hc0]; exact (((Blk.newAt (w := w.alloc _) (by simp) 24 [pvb, avb, evb, .int .i64 b.r]).alloc _).alloc _).alloc _
  have hb2 : Blk w1 (c0 + 1 + 1) 28 [.int .i64 n.x, .int .i64 n.y, .int .i64 n.z, .int .i64 gap] := by rw [← hw1, hc0]; exact ((Blk.newAt (w := (w.alloc _).alloc _) (by simp) 28 [.int .i64 n.x, .int .i64 n.y, .int .i64 n.z, .int .i64 gap]).alloc _).alloc _
  have hb3 : Blk w1 (c0 + 1 + 1 + 1) 32 [.int .i64 0, .int .i64 0, .int .i64 0, .slice none 0 0] := by rw [← hw1, hc0]; exact (Blk.newAt (w := ((w.alloc _).alloc _).alloc _) (by simp) 32 [.int .i64 0, .int .i64 0, .int .i64 0, .slice none 0 0]).alloc _
  have hb4 : Blk w1 (c0 + 1 + 1 + 1 + 1) 26 n.cells := by rw [← hw1, hc0]; exact Blk.newAt (w := (((w.alloc _).alloc _).alloc _).alloc _) (by simp) 26 n.cells
  have x0 : ((((w.alloc (.cells [pva, ava, eva, .int .i64 a.r].toArray 24)).alloc (.cells [pvb, avb, evb, .int .i64 b.r].toArray 24)).alloc (.cells [.int .i64 n.x, .int .i64 n.y, .int .i64 n.z, .int .i64 gap].toArray 28))).cell? ⟨w.heap.size + 1 + 1, 0, none⟩ = some (.int .i64 n.x) := (Blk.newAt (w := (w.alloc _).alloc _) (by simp) 28 [.int .i64 n.x, .int .i64 n.y, .int .i64 n.z, .int .i64 gap]).cell 0
  clear pa aa ea pb ab eb x0
  go_enter Try.func5, Try.ntmps5
  go_upto_region 2 with (fail)
  change Code.wp _ _ _ _ (((((w.alloc (.cells [pva, ava, eva, .int .i64 a.r].toArray 24)).alloc (.cells [pvb, avb, evb, .int .i64 b.r].toArray 24)).alloc (.cells [.int .i64 n.x, .int .i64 n.y, .int .i64 n.z, .int .i64 gap].toArray 28)).alloc (.cells [.int .i64 0, .int .i64 0, .int .i64 0, .slice none 0 0].toArray 32)).alloc (.cells n.cells.toArray 26))
  rw [hw1]
  clear hw1
  simp only [← hc0]
  have Hc0 := Lib.hid hc0
  have HB1 := Lib.hid B0
  have hs1 := B0.size
  have k0 : _ = some (Value.int .i64 n.x) := hb4.cell 0
  have k1 : _ = some (Value.int .i64 n.y) := hb4.cell 1
  have k2 : _ = some (Value.int .i64 n.z) := hb4.cell 2
  have Hb0 := Lib.hid hb0
  have Hb1 := Lib.hid hb1
  have Hb2 := Lib.hid hb2
  have Hb3 := Lib.hid hb3
  have Hb4 := Lib.hid hb4
  clear hc0 B0 hb0 hb1 hb2 hb3 hb4
  go_wp2_with fail
  refine (sizes9_any n w1).mono ?_
  rintro e w2 ⟨rfl, hB2⟩
  have HB2 := Lib.hid (HB1.out.trans (hB2.mono hs1))
  have hs2 := HB2.out.size
  have Hb02 := Lib.hid (Hb0.out.below hB2 Hb0.out.lt)
  have Hb12 := Lib.hid (Hb1.out.below hB2 Hb1.out.lt)
  have Hb22 := Lib.hid (Hb2.out.below hB2 Hb2.out.lt)
  have Hb32 := Lib.hid (Hb3.out.below hB2 Hb3.out.lt)
  have Hb42 := Lib.hid (Hb4.out.below hB2 Hb4.out.lt)
  clear k0 k1 k2 hB2 Hb0 Hb1 Hb2 Hb3 Hb4 HB1 hs1
  rw [← HSm.out, ← HUp.out]
  have k0 : _ = some pva := Hb02.out.cell 0
  have k1 : _ = some ava := Hb02.out.cell 1
  have k2 : _ = some eva := Hb02.out.cell 2
  have k3 : _ = some (Value.int .i64 a.r) := Hb02.out.cell 3
  have hB3 : Below w2.heap.size w2 (w2.alloc (.cells #[.int .i64 0, .int .i64 0, .int .i64 0] 26)) := (Below.refl _ w2).alloc (Nat.le_refl _) _
  have lc0 := Hb02.out.lt
  go_wp2_with fail
  refine (HA.out _ w2.heap.size (HB2.out.trans (hB3.mono hs2)) (Blk.new w2 26 [.int .i64 0, .int .i64 0, .int .i64 0])).mono ?_
  rintro e w3 ⟨⟨px, gx, rfl⟩, hB3b⟩
  have hB33 := (hB3.trans (hB3b.mono hB3.size)).alloc (hB3.trans (hB3b.mono hB3.size)).size (.cells #[.int .i64 px.x, .int .i64 px.y, .int .i64 px.z, .int .i64 gx] 28)
  have HB3 := Lib.hid (HB2.out.trans (hB33.mono hs2))
  have Hb03 := Lib.hid (Hb02.out.below hB33 Hb02.out.lt)
  have Hb13 := Lib.hid (Hb12.out.below hB33 Hb12.out.lt)
  have Hb23 := Lib.hid (Hb22.out.below hB33 Hb22.out.lt)
  have Hb33 := Lib.hid (Hb32.out.below hB33 Hb32.out.lt)
  have Hb43 := Lib.hid (Hb42.out.below hB33 Hb42.out.lt)
  clear k0 k1 k2 k3 hB3 hB3b hB33 Hb02 Hb12 Hb22 Hb32 Hb42 HB2 hs2 lc0
  go_upto_region 4 with (fail)
  obtain ⟨w4, hw4⟩ : ∃ w4, w3.alloc (.cells #[.int .i64 px.x, .int .i64 px.y, .int .i64 px.z, .int .i64 gx] 28) = w4 := ⟨_, rfl⟩
  rw [hw4] at HB3 Hb03 Hb13 Hb23 Hb33 Hb43 ⊢
  clear hw4
  have hs4 := HB3.out.size
  have k0 : _ = some pvb := Hb13.out.cell 0
  have k1 : _ = some avb := Hb13.out.cell 1
  have k2 : _ = some evb := Hb13.out.cell 2
  have k3 : _ = some (Value.int .i64 b.r) := Hb13.out.cell 3
  have hB4 : Below w4.heap.size w4 (w4.alloc (.cells #[.int .i64 0, .int .i64 0, .int .i64 0] 26)) := (Below.refl _ w4).alloc (Nat.le_refl _) _
  have lc1 := Hb13.out.lt
  go_wp2_with fail
  refine (HB.out _ w4.heap.size (HB3.out.trans (hB4.mono hs4)) (Blk.new w4 26 [.int .i64 0, .int .i64 0, .int .i64 0])).mono ?_
  rintro e w5 ⟨⟨qx, hx, rfl⟩, hB5b⟩
  have hB55 := (hB4.trans (hB5b.mono hB4.size)).alloc (hB4.trans (hB5b.mono hB4.size)).size (.cells #[.int .i64 qx.x, .int .i64 qx.y, .int .i64 qx.z, .int .i64 hx] 28)
  have HB5 := Lib.hid (HB3.out.trans (hB55.mono hs4))
  have Hb05 := Lib.hid (Hb03.out.below hB55 Hb03.out.lt)
  have Hb15 := Lib.hid (Hb13.out.below hB55 Hb13.out.lt)
  have Hb25 := Lib.hid (Hb23.out.below hB55 Hb23.out.lt)
  have Hb35 := Lib.hid (Hb33.out.below hB55 Hb33.out.lt)
  have Hb45 := Lib.hid (Hb43.out.below hB55 Hb43.out.lt)
  clear k0 k1 k2 k3 hB4 hB5b hB55 Hb03 Hb13 Hb23 Hb33 Hb43 HB3 hs4 lc1
  go_upto_region 5 with (fail)
  obtain ⟨w6, hw6⟩ : ∃ w6, w5.alloc (.cells #[.int .i64 qx.x, .int .i64 qx.y, .int .i64 qx.z, .int .i64 hx] 28) = w6 := ⟨_, rfl⟩
  rw [hw6] at HB5 Hb05 Hb15 Hb25 Hb35 Hb45 ⊢
  clear hw6
  have hs6 := HB5.out.size
  have z0 : _ = some (Value.int .i64 0) := Hb35.out.cell 0
  have z1 : _ = some (Value.int .i64 0) := Hb35.out.cell 1
  have z2 : _ = some (Value.int .i64 0) := Hb35.out.cell 2
  have z3 : _ = some (Value.slice none 0 0) := Hb35.out.cell 3
  have f0 := Hb35.out.frozen 0
  have f1 := Hb35.out.frozen 1
  have f2 := Hb35.out.frozen 2
  have f3 := Hb35.out.frozen 3
  have g3 : _ = some (Value.int .i64 gap) := Hb25.out.cell 3
  have k0 : _ = some (Value.int .i64 n.x) := Hb45.out.cell 0
  have k1 : _ = some (Value.int .i64 n.y) := Hb45.out.cell 1
  have k2 : _ = some (Value.int .i64 n.z) := Hb45.out.cell 2
  have hc0 := Hc0.out
  have Hfin := Lib.hid ((((Hb35.out.set 0 (.int .i64 0)).set 1 (.int .i64 0)).set 2 (.int .i64 0)).set 3 (.slice none 0 0))
  have HBf := Lib.hid ((((HB5.out.setCell (p := ⟨c0 + 1 + 1 + 1, 0, none⟩) (by simp only; omega) (.int .i64 0)).setCell (p := ⟨c0 + 1 + 1 + 1, 1, none⟩) (by simp only; omega) (.int .i64 0)).setCell (p := ⟨c0 + 1 + 1 + 1, 2, none⟩) (by simp only; omega) (.int .i64 0)).setCell (p := ⟨c0 + 1 + 1 + 1, 3, none⟩) (by simp only; omega) (.slice none 0 0))
  have HG2 : Hid ((mayB a && mayB b) = true → ¬ sm = 0 → gap ≤ within → ¬ Near 1048576 n) := Lib.hid (fun h1 h2 h3 h4 => by
    have := HG.out
    unfold goB at this
    rw [h1, ← HSm.out, decide_eq_true h3, nearB_iff.2 h4] at this
    simp [h2] at this)
  clear hc0
  cases hma : mayB a with
  | false =>
    clear hma
    go_wp2
    all_goals
      first
        | (exfalso; omega)
        | (obtain ⟨w9, hw9⟩ : ∃ w9, ((((w6.setCell ⟨c0 + 1 + 1 + 1, 0, none⟩ (.int .i64 0)).setCell ⟨c0 + 1 + 1 + 1, 1, none⟩ (.int .i64 0)).setCell ⟨c0 + 1 + 1 + 1, 2, none⟩ (.int .i64 0)).setCell ⟨c0 + 1 + 1 + 1, 3, none⟩ (.slice none 0 0)) = w9 := ⟨_, rfl⟩
           rw [hw9] at Hfin HBf ⊢
           have r0 : _ = some (Value.int .i64 0) := Hfin.out.cell 0
           have r1 : _ = some (Value.int .i64 0) := Hfin.out.cell 1
           have r2 : _ = some (Value.int .i64 0) := Hfin.out.cell 2
           have r3 : _ = some (Value.slice none 0 0) := Hfin.out.cell 3
           exact bodyPost_ret (v := .tuple #[patV ⟨0, 0, 0⟩ (.slice none 0 0), .bool false]) (by simp [results, Try.f5, go_sem, r0, r1, r2, r3]) rfl ⟨rfl, HBf.out⟩)
  | true =>
    cases hmb : mayB b with
    | false =>
      clear hma hmb
      go_wp2
      all_goals
        first
          | (exfalso; omega)
          | (obtain ⟨w9, hw9⟩ : ∃ w9, ((((w6.setCell ⟨c0 + 1 + 1 + 1, 0, none⟩ (.int .i64 0)).setCell ⟨c0 + 1 + 1 + 1, 1, none⟩ (.int .i64 0)).setCell ⟨c0 + 1 + 1 + 1, 2, none⟩ (.int .i64 0)).setCell ⟨c0 + 1 + 1 + 1, 3, none⟩ (.slice none 0 0)) = w9 := ⟨_, rfl⟩
             rw [hw9] at Hfin HBf ⊢
             have r0 : _ = some (Value.int .i64 0) := Hfin.out.cell 0
             have r1 : _ = some (Value.int .i64 0) := Hfin.out.cell 1
             have r2 : _ = some (Value.int .i64 0) := Hfin.out.cell 2
             have r3 : _ = some (Value.slice none 0 0) := Hfin.out.cell 3
             exact bodyPost_ret (v := .tuple #[patV ⟨0, 0, 0⟩ (.slice none 0 0), .bool false]) (by simp [results, Try.f5, go_sem, r0, r1, r2, r3]) rfl ⟨rfl, HBf.out⟩)
    | true =>
      have HM := Lib.hid (show (mayB a && mayB b) = true by rw [hma, hmb]; rfl)
      clear hma hmb
      by_cases hs0 : sm = 0
      · have hsb : (sm == 0) = true := by simpa using hs0
        go_wp2
        all_goals
          first
            | (exfalso; omega)
            | (obtain ⟨w9, hw9⟩ : ∃ w9, ((((w6.setCell ⟨c0 + 1 + 1 + 1, 0, none⟩ (.int .i64 0)).setCell ⟨c0 + 1 + 1 + 1, 1, none⟩ (.int .i64 0)).setCell ⟨c0 + 1 + 1 + 1, 2, none⟩ (.int .i64 0)).setCell ⟨c0 + 1 + 1 + 1, 3, none⟩ (.slice none 0 0)) = w9 := ⟨_, rfl⟩
               rw [hw9] at Hfin HBf ⊢
               have r0 : _ = some (Value.int .i64 0) := Hfin.out.cell 0
               have r1 : _ = some (Value.int .i64 0) := Hfin.out.cell 1
               have r2 : _ = some (Value.int .i64 0) := Hfin.out.cell 2
               have r3 : _ = some (Value.slice none 0 0) := Hfin.out.cell 3
               exact bodyPost_ret (v := .tuple #[patV ⟨0, 0, 0⟩ (.slice none 0 0), .bool false]) (by simp [results, Try.f5, go_sem, r0, r1, r2, r3]) rfl ⟨rfl, HBf.out⟩)
      · have hsb : (sm == 0) = false := by simpa using hs0
        by_cases hgw : within < gap
        · go_wp2
          all_goals
            first
              | (exfalso; omega)
              | (obtain ⟨w9, hw9⟩ : ∃ w9, ((((w6.setCell ⟨c0 + 1 + 1 + 1, 0, none⟩ (.int .i64 0)).setCell ⟨c0 + 1 + 1 + 1, 1, none⟩ (.int .i64 0)).setCell ⟨c0 + 1 + 1 + 1, 2, none⟩ (.int .i64 0)).setCell ⟨c0 + 1 + 1 + 1, 3, none⟩ (.slice none 0 0)) = w9 := ⟨_, rfl⟩
                 rw [hw9] at Hfin HBf ⊢
                 have r0 : _ = some (Value.int .i64 0) := Hfin.out.cell 0
                 have r1 : _ = some (Value.int .i64 0) := Hfin.out.cell 1
                 have r2 : _ = some (Value.int .i64 0) := Hfin.out.cell 2
                 have r3 : _ = some (Value.slice none 0 0) := Hfin.out.cell 3
                 exact bodyPost_ret (v := .tuple #[patV ⟨0, 0, 0⟩ (.slice none 0 0), .bool false]) (by simp [results, Try.f5, go_sem, r0, r1, r2, r3]) rfl ⟨rfl, HBf.out⟩)
        · have hfar := HG2.out HM.out hs0 (by omega)
          have hfar2 : n.x < -1048576 ∨ 1048576 < n.x ∨ n.y < -1048576 ∨ 1048576 < n.y ∨ n.z < -1048576 ∨ 1048576 < n.z := by
            unfold Near at hfar
            omega
          clear hfar
          obtain ⟨M, hmx⟩ : ∃ M, (if (if n.x < n.y then n.y else n.x) < n.z then n.z else (if n.x < n.y then n.y else n.x)) = M := ⟨_, rfl⟩
          obtain ⟨m, hmn⟩ : ∃ m, (if n.z < (if n.y < n.x then n.y else n.x) then n.z else (if n.y < n.x then n.y else n.x)) = m := ⟨_, rfl⟩
          have hMm : 1048576 < M ∨ m < -1048576 := by
            rw [← hmx, ← hmn]
            repeat' split
            all_goals omega
          clear hfar2
          by_cases hM : 1048576 < M
          · clear hMm
            go_wp2
            all_goals
              first
                | (exfalso; omega)
                | (obtain ⟨w9, hw9⟩ : ∃ w9, ((((w6.setCell ⟨c0 + 1 + 1 + 1, 0, none⟩ (.int .i64 0)).setCell ⟨c0 + 1 + 1 + 1, 1, none⟩ (.int .i64 0)).setCell ⟨c0 + 1 + 1 + 1, 2, none⟩ (.int .i64 0)).setCell ⟨c0 + 1 + 1 + 1, 3, none⟩ (.slice none 0 0)) = w9 := ⟨_, rfl⟩
                   rw [hw9] at Hfin HBf ⊢
                   have r0 : _ = some (Value.int .i64 0) := Hfin.out.cell 0
                   have r1 : _ = some (Value.int .i64 0) := Hfin.out.cell 1
                   have r2 : _ = some (Value.int .i64 0) := Hfin.out.cell 2
                   have r3 : _ = some (Value.slice none 0 0) := Hfin.out.cell 3
                   exact bodyPost_ret (v := .tuple #[patV ⟨0, 0, 0⟩ (.slice none 0 0), .bool false]) (by simp [results, Try.f5, go_sem, r0, r1, r2, r3]) rfl ⟨rfl, HBf.out⟩)
          · have hm' : m < -1048576 := by omega
            clear hMm
            go_wp2
            all_goals
              first
                | (exfalso; omega)
                | (obtain ⟨w9, hw9⟩ : ∃ w9, ((((w6.setCell ⟨c0 + 1 + 1 + 1, 0, none⟩ (.int .i64 0)).setCell ⟨c0 + 1 + 1 + 1, 1, none⟩ (.int .i64 0)).setCell ⟨c0 + 1 + 1 + 1, 2, none⟩ (.int .i64 0)).setCell ⟨c0 + 1 + 1 + 1, 3, none⟩ (.slice none 0 0)) = w9 := ⟨_, rfl⟩
                   rw [hw9] at Hfin HBf ⊢
                   have r0 : _ = some (Value.int .i64 0) := Hfin.out.cell 0
                   have r1 : _ = some (Value.int .i64 0) := Hfin.out.cell 1
                   have r2 : _ = some (Value.int .i64 0) := Hfin.out.cell 2
                   have r3 : _ = some (Value.slice none 0 0) := Hfin.out.cell 3
                   exact bodyPost_ret (v := .tuple #[patV ⟨0, 0, 0⟩ (.slice none 0 0), .bool false]) (by simp [results, Try.f5, go_sem, r0, r1, r2, r3]) rfl ⟨rfl, HBf.out⟩)
end Go.Proofs.Ytpbpdgknjbjlcaa
