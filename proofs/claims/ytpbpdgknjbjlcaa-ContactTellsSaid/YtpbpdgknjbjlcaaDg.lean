/- Contacts: the reference's Touch where it says no. -/
import Derived.Test.YtpbpdgknjbjlcaaDe
import Derived.Test.YtpbpdgknjbjlcaaCf
namespace Go.Proofs.Ytpbpdgknjbjlcaa
open Go.RowKit
set_option maxRecDepth 100000 in
set_option maxHeartbeats 1000000 in
theorem touch6_no (pva ava eva pvb avb evb : Value) (a b : Cor) (n : Pt) (gap within : Int) (w : World) (pa : Rd w pva a.P.length 3 (ptCells a.P)) (aa : Rd w ava a.A.length 3 (ptCells a.A)) (ea : Rd w eva a.E.length 3 (ptCells a.E)) (pb : Rd w pvb b.P.length 3 (ptCells b.P)) (ab : Rd w avb b.A.length 3 (ptCells b.A)) (eb : Rd w evb b.E.length 3 (ptCells b.E)) (hgo : goB a b n gap within = false) :
    Calls Try.prog 6 #[corV pva ava eva a.r, corV pvb avb evb b.r, apV n gap, .int .i64 within] w fun e w' => e = .returned (.tuple #[patV ⟨0, 0, 0⟩ (.slice none 0 0), .bool false]) ∧ Below w.heap.size w w' := by
  have HG := Lib.hid hgo
  obtain ⟨sm, hsm⟩ : ∃ v, v = smallP n := ⟨_, rfl⟩
  obtain ⟨up, hup⟩ : ∃ v, v = upP n := ⟨_, rfl⟩
  have HSm := Lib.hid hsm
  have HUp := Lib.hid hup
  clear hsm hup hgo
  have HA : Hid (∀ W, Below w.heap.size w W → Calls Try.prog 21 #[corV pva ava eva a.r] W fun e W' => e = .returned (.bool (mayB a)) ∧ Below W.heap.size W W') := Lib.hid fun W hW => may21_any pva ava eva a W (pa.new hW) (aa.new hW) (ea.new hW)
  have HB : Hid (∀ W, Below w.heap.size w W → Calls Try.prog 21 #[corV pvb avb evb b.r] W fun e W' => e = .returned (.bool (mayB b)) ∧ Below W.heap.size W W') := Lib.hid fun W hW => may21_any pvb avb evb b W (pb.new hW) (ab.new hW) (eb.new hW)
  obtain ⟨w1, hw1⟩ : ∃ w1, ((((w.alloc (.cells [pva, ava, eva, .int .i64 a.r].toArray 24)).alloc (.cells [pvb, avb, evb, .int .i64 b.r].toArray 24)).alloc (.cells [.int .i64 n.x, .int .i64 n.y, .int .i64 n.z, .int .i64 gap].toArray 28)).alloc (.cells [.int .i64 0, .int .i64 0, .int .i64 0, .slice none 0 0].toArray 32)).alloc (.cells n.cells.toArray 26) = w1 := ⟨_, rfl⟩
  obtain ⟨c0, hc0⟩ : ∃ c, c = w.heap.size := ⟨_, rfl⟩
  have B0 : Below w.heap.size w w1 := by rw [← hw1]; exact (((((Below.refl _ w).alloc (Nat.le_refl _) _).alloc (by simp) _).alloc (by simp; omega) _).alloc (by simp; omega) _).alloc (by simp; omega) _
  have hb0 : Blk w1 c0 24 [pva, ava, eva, .int .i64 a.r] := by rw [← hw1, hc0]; exact ((((Blk.newAt (w := w) rfl 24 [pva, ava, eva, .int .i64 a.r]).alloc _).alloc _).alloc _).alloc _
  have hb1 : Blk w1 (c0 + 1) 24 [pvb, avb, evb, .int .i64 b.r] := by rw [← hw1, hc0]; exact (((Blk.newAt (w := w.alloc _) (by simp) 24 [pvb, avb, evb, .int .i64 b.r]).alloc _).alloc _).alloc _
  have hb2 : Blk w1 (c0 + 1 + 1) 28 [.int .i64 n.x, .int .i64 n.y, .int .i64 n.z, .int .i64 gap] := by rw [← hw1, hc0]; exact ((Blk.newAt (w := (w.alloc _).alloc _) (by simp) 28 [.int .i64 n.x, .int .i64 n.y, .int .i64 n.z, .int .i64 gap]).alloc _).alloc _
  have hb3 : Blk w1 (c0 + 1 + 1 + 1) 32 [.int .i64 0, .int .i64 0, .int .i64 0, .slice none 0 0] := by rw [← hw1, hc0]; exact (Blk.newAt (w := ((w.alloc _).alloc _).alloc _) (by simp) 32 [.int .i64 0, .int .i64 0, .int .i64 0, .slice none 0 0]).alloc _
  have hb4 : Blk w1 (c0 + 1 + 1 + 1 + 1) 26 n.cells := by rw [← hw1, hc0]; exact Blk.newAt (w := (((w.alloc _).alloc _).alloc _).alloc _) (by simp) 26 n.cells
  have x0 : ((((w.alloc (.cells [pva, ava, eva, .int .i64 a.r].toArray 24)).alloc (.cells [pvb, avb, evb, .int .i64 b.r].toArray 24)).alloc (.cells [.int .i64 n.x, .int .i64 n.y, .int .i64 n.z, .int .i64 gap].toArray 28))).cell? ⟨w.heap.size + 1 + 1, 0, none⟩ = some (.int .i64 n.x) := (Blk.newAt (w := (w.alloc _).alloc _) (by simp) 28 [.int .i64 n.x, .int .i64 n.y, .int .i64 n.z, .int .i64 gap]).cell 0
  clear pa aa ea pb ab eb x0
  go_enter Try.func6, Try.ntmps6
  go_upto_region 2 with (fail)
  change Code.wp _ _ _ _ (((((w.alloc (.cells [pva, ava, eva, .int .i64 a.r].toArray 24)).alloc (.cells [pvb, avb, evb, .int .i64 b.r].toArray 24)).alloc (.cells [.int .i64 n.x, .int .i64 n.y, .int .i64 n.z, .int .i64 gap].toArray 28)).alloc (.cells [.int .i64 0, .int .i64 0, .int .i64 0, .slice none 0 0].toArray 32)).alloc (.cells n.cells.toArray 26))
  rw [hw1]
  clear hw1
  simp only [← hc0]
  have Hc0 := Lib.hid hc0
  have HB1 := Lib.hid B0
  have hs1 := B0.size
  have k0 : _ = some (Value.int .i64 n.x) := hb4.cell 0
  have k1 : _ = some (Value.int .i64 n.y) := hb4.cell 1
  have k2 : _ = some (Value.int .i64 n.z) := hb4.cell 2
  have Hb0 := Lib.hid hb0
  have Hb1 := Lib.hid hb1
  have Hb2 := Lib.hid hb2
  have Hb3 := Lib.hid hb3
  have Hb4 := Lib.hid hb4
  clear hc0 B0 hb0 hb1 hb2 hb3 hb4
  go_wp2_with fail
  refine (sizes20_any n w1).mono ?_
  rintro e w2 ⟨rfl, hB2⟩
  have HB2 := Lib.hid (HB1.out.trans (hB2.mono hs1))
  have hs2 := HB2.out.size
  have Hb02 := Lib.hid (Hb0.out.below hB2 Hb0.out.lt)
  have Hb12 := Lib.hid (Hb1.out.below hB2 Hb1.out.lt)
  have Hb22 := Lib.hid (Hb2.out.below hB2 Hb2.out.lt)
  have Hb32 := Lib.hid (Hb3.out.below hB2 Hb3.out.lt)
  have Hb42 := Lib.hid (Hb4.out.below hB2 Hb4.out.lt)
  clear k0 k1 k2 hB2 Hb0 Hb1 Hb2 Hb3 Hb4 HB1 hs1
  rw [← HSm.out, ← HUp.out]
  have Hb0_2 := Hb02
  have Hb1_2 := Hb12
  have Hb2_2 := Hb22
  have Hb3_2 := Hb32
  have Hb4_2 := Hb42
  clear Hb02 Hb12 Hb22 Hb32 Hb42
  have k0 : _ = some (pva) := Hb0_2.out.cell 0
  have k1 : _ = some (ava) := Hb0_2.out.cell 1
  have k2 : _ = some (eva) := Hb0_2.out.cell 2
  have k3 : _ = some (Value.int .i64 a.r) := Hb0_2.out.cell 3
  go_wp2_with fail
  refine (HA.out w2 HB2.out).mono ?_
  rintro e w3 ⟨rfl, hT⟩
  have HB3 := Lib.hid (HB2.out.trans (hT.mono hs2))
  have hs3 := HB3.out.size
  have Hb0_3 := Lib.hid (Hb0_2.out.below hT Hb0_2.out.lt)
  have Hb1_3 := Lib.hid (Hb1_2.out.below hT Hb1_2.out.lt)
  have Hb2_3 := Lib.hid (Hb2_2.out.below hT Hb2_2.out.lt)
  have Hb3_3 := Lib.hid (Hb3_2.out.below hT Hb3_2.out.lt)
  have Hb4_3 := Lib.hid (Hb4_2.out.below hT Hb4_2.out.lt)
  clear k0 k1 k2 k3 hT HB2 hs2
  clear Hb0_2 Hb1_2 Hb2_2 Hb3_2 Hb4_2
  have k0 : _ = some (pvb) := Hb1_3.out.cell 0
  have k1 : _ = some (avb) := Hb1_3.out.cell 1
  have k2 : _ = some (evb) := Hb1_3.out.cell 2
  have k3 : _ = some (Value.int .i64 b.r) := Hb1_3.out.cell 3
  go_wp2_with fail
  refine (HB.out w3 HB3.out).mono ?_
  rintro e w4 ⟨rfl, hT⟩
  have HB4 := Lib.hid (HB3.out.trans (hT.mono hs3))
  have hs4 := HB4.out.size
  have Hb0_4 := Lib.hid (Hb0_3.out.below hT Hb0_3.out.lt)
  have Hb1_4 := Lib.hid (Hb1_3.out.below hT Hb1_3.out.lt)
  have Hb2_4 := Lib.hid (Hb2_3.out.below hT Hb2_3.out.lt)
  have Hb3_4 := Lib.hid (Hb3_3.out.below hT Hb3_3.out.lt)
  have Hb4_4 := Lib.hid (Hb4_3.out.below hT Hb4_3.out.lt)
  clear k0 k1 k2 k3 hT HB3 hs3
  clear Hb0_3 Hb1_3 Hb2_3 Hb3_3 Hb4_3
  have z0 : _ = some (Value.int .i64 0) := Hb3_4.out.cell 0
  have z1 : _ = some (Value.int .i64 0) := Hb3_4.out.cell 1
  have z2 : _ = some (Value.int .i64 0) := Hb3_4.out.cell 2
  have z3 : _ = some (Value.slice none 0 0) := Hb3_4.out.cell 3
  have f0 := Hb3_4.out.frozen 0
  have f1 := Hb3_4.out.frozen 1
  have f2 := Hb3_4.out.frozen 2
  have f3 := Hb3_4.out.frozen 3
  have g3 : _ = some (Value.int .i64 gap) := Hb2_4.out.cell 3
  have hc0 := Hc0.out
  have HG2 : Hid ((mayB a && mayB b) = true → ¬ sm = 0 → gap ≤ within → ¬ Near 1048576 n) := Lib.hid (fun h1 h2 h3 h4 => by
    have := HG.out
    unfold goB at this
    rw [h1, ← HSm.out, decide_eq_true h3, nearB_iff.2 h4] at this
    simp [h2] at this)
  have Hfin := Lib.hid ((((Hb3_4.out.set 0 (.int .i64 0)).set 1 (.int .i64 0)).set 2 (.int .i64 0)).set 3 (.slice none 0 0))
  have HBf := Lib.hid ((((HB4.out.setCell (p := ⟨c0 + 1 + 1 + 1, 0, none⟩) (by simp only; omega) (.int .i64 0)).setCell (p := ⟨c0 + 1 + 1 + 1, 1, none⟩) (by simp only; omega) (.int .i64 0)).setCell (p := ⟨c0 + 1 + 1 + 1, 2, none⟩) (by simp only; omega) (.int .i64 0)).setCell (p := ⟨c0 + 1 + 1 + 1, 3, none⟩) (by simp only; omega) (.slice none 0 0))
  clear hc0
  cases hma : mayB a with
  | false =>
    clear hma
    go_wp2
    obtain ⟨w9, hw9⟩ : ∃ w9, ((((w4.setCell ⟨c0 + 1 + 1 + 1, 0, none⟩ (.int .i64 0)).setCell ⟨c0 + 1 + 1 + 1, 1, none⟩ (.int .i64 0)).setCell ⟨c0 + 1 + 1 + 1, 2, none⟩ (.int .i64 0)).setCell ⟨c0 + 1 + 1 + 1, 3, none⟩ (.slice none 0 0)) = w9 := ⟨_, rfl⟩
    rw [hw9] at Hfin HBf ⊢
    have r0 : _ = some (Value.int .i64 0) := Hfin.out.cell 0
    have r1 : _ = some (Value.int .i64 0) := Hfin.out.cell 1
    have r2 : _ = some (Value.int .i64 0) := Hfin.out.cell 2
    have r3 : _ = some (Value.slice none 0 0) := Hfin.out.cell 3
    exact bodyPost_ret (v := .tuple #[patV ⟨0, 0, 0⟩ (.slice none 0 0), .bool false]) (by simp [results, Try.f6, go_sem, r0, r1, r2, r3]) rfl ⟨rfl, HBf.out⟩
  | true =>
    cases hmb : mayB b with
    | false =>
      clear hma hmb
      go_wp2
      obtain ⟨w9, hw9⟩ : ∃ w9, ((((w4.setCell ⟨c0 + 1 + 1 + 1, 0, none⟩ (.int .i64 0)).setCell ⟨c0 + 1 + 1 + 1, 1, none⟩ (.int .i64 0)).setCell ⟨c0 + 1 + 1 + 1, 2, none⟩ (.int .i64 0)).setCell ⟨c0 + 1 + 1 + 1, 3, none⟩ (.slice none 0 0)) = w9 := ⟨_, rfl⟩
      rw [hw9] at Hfin HBf ⊢
      have r0 : _ = some (Value.int .i64 0) := Hfin.out.cell 0
      have r1 : _ = some (Value.int .i64 0) := Hfin.out.cell 1
      have r2 : _ = some (Value.int .i64 0) := Hfin.out.cell 2
      have r3 : _ = some (Value.slice none 0 0) := Hfin.out.cell 3
      exact bodyPost_ret (v := .tuple #[patV ⟨0, 0, 0⟩ (.slice none 0 0), .bool false]) (by simp [results, Try.f6, go_sem, r0, r1, r2, r3]) rfl ⟨rfl, HBf.out⟩
    | true =>
      have HM := Lib.hid (show (mayB a && mayB b) = true by rw [hma, hmb]; rfl)
      clear hma hmb
      by_cases hs0 : sm = 0
      · have hsb : (sm == 0) = true := by simpa using hs0
        go_wp2
        obtain ⟨w9, hw9⟩ : ∃ w9, ((((w4.setCell ⟨c0 + 1 + 1 + 1, 0, none⟩ (.int .i64 0)).setCell ⟨c0 + 1 + 1 + 1, 1, none⟩ (.int .i64 0)).setCell ⟨c0 + 1 + 1 + 1, 2, none⟩ (.int .i64 0)).setCell ⟨c0 + 1 + 1 + 1, 3, none⟩ (.slice none 0 0)) = w9 := ⟨_, rfl⟩
        rw [hw9] at Hfin HBf ⊢
        have r0 : _ = some (Value.int .i64 0) := Hfin.out.cell 0
        have r1 : _ = some (Value.int .i64 0) := Hfin.out.cell 1
        have r2 : _ = some (Value.int .i64 0) := Hfin.out.cell 2
        have r3 : _ = some (Value.slice none 0 0) := Hfin.out.cell 3
        exact bodyPost_ret (v := .tuple #[patV ⟨0, 0, 0⟩ (.slice none 0 0), .bool false]) (by simp [results, Try.f6, go_sem, r0, r1, r2, r3]) rfl ⟨rfl, HBf.out⟩
      · have hsb : (sm == 0) = false := by simpa using hs0
        by_cases hgw : within < gap
        · go_wp2
          obtain ⟨w9, hw9⟩ : ∃ w9, ((((w4.setCell ⟨c0 + 1 + 1 + 1, 0, none⟩ (.int .i64 0)).setCell ⟨c0 + 1 + 1 + 1, 1, none⟩ (.int .i64 0)).setCell ⟨c0 + 1 + 1 + 1, 2, none⟩ (.int .i64 0)).setCell ⟨c0 + 1 + 1 + 1, 3, none⟩ (.slice none 0 0)) = w9 := ⟨_, rfl⟩
          rw [hw9] at Hfin HBf ⊢
          have r0 : _ = some (Value.int .i64 0) := Hfin.out.cell 0
          have r1 : _ = some (Value.int .i64 0) := Hfin.out.cell 1
          have r2 : _ = some (Value.int .i64 0) := Hfin.out.cell 2
          have r3 : _ = some (Value.slice none 0 0) := Hfin.out.cell 3
          exact bodyPost_ret (v := .tuple #[patV ⟨0, 0, 0⟩ (.slice none 0 0), .bool false]) (by simp [results, Try.f6, go_sem, r0, r1, r2, r3]) rfl ⟨rfl, HBf.out⟩
        · have hfar := HG2.out HM.out hs0 (by omega)
          have hfar2 : n.x < -1048576 ∨ 1048576 < n.x ∨ n.y < -1048576 ∨ 1048576 < n.y ∨ n.z < -1048576 ∨ 1048576 < n.z := by
            unfold Near at hfar
            omega
          have Hfar := Lib.hid hfar2
          clear hfar hfar2 Hfin HBf z0 z1 z2 z3 f0 f1 f2 f3
          have k0 : _ = some (Value.int .i64 n.x) := Hb4_4.out.cell 0
          have k1 : _ = some (Value.int .i64 n.y) := Hb4_4.out.cell 1
          have k2 : _ = some (Value.int .i64 n.z) := Hb4_4.out.cell 2
          go_upto_block 9 with (fail)
          change Code.wp _ _ _ _ (w4.alloc (.cells #[.int .i64 n.x, .int .i64 n.y, .int .i64 n.z] 3))
          obtain ⟨w5, hw5⟩ : ∃ w5, w4.alloc (.cells #[.int .i64 n.x, .int .i64 n.y, .int .i64 n.z] 3) = w5 := ⟨_, rfl⟩
          have hT : Below w4.heap.size w4 w5 := by rw [← hw5]; exact (Below.refl _ _).alloc (Nat.le_refl _) _
          have h5 : Blk w5 w4.heap.size 3 [.int .i64 n.x, .int .i64 n.y, .int .i64 n.z] := by rw [← hw5]; exact Blk.newAt (w := w4) rfl 3 [.int .i64 n.x, .int .i64 n.y, .int .i64 n.z]
          rw [hw5]
          clear hw5
          obtain ⟨t5, ht5e⟩ : ∃ v, v = w4.heap.size := ⟨_, rfl⟩
          rw [← ht5e] at h5 ⊢
          clear ht5e k0 k1 k2
          have HB5 := Lib.hid (HB4.out.trans (hT.mono hs4))
          have hs5 := HB5.out.size
          have Hb3_5 := Lib.hid (Hb3_4.out.below hT Hb3_4.out.lt)
          clear hT
          have hc0 := Hc0.out
          have z0 : _ = some (Value.int .i64 0) := Hb3_5.out.cell 0
          have z1 : _ = some (Value.int .i64 0) := Hb3_5.out.cell 1
          have z2 : _ = some (Value.int .i64 0) := Hb3_5.out.cell 2
          have z3 : _ = some (Value.slice none 0 0) := Hb3_5.out.cell 3
          have f0 := Hb3_5.out.frozen 0
          have f1 := Hb3_5.out.frozen 1
          have f2 := Hb3_5.out.frozen 2
          have f3 := Hb3_5.out.frozen 3
          have Hfin5 := Lib.hid ((((Hb3_5.out.set 0 (.int .i64 0)).set 1 (.int .i64 0)).set 2 (.int .i64 0)).set 3 (.slice none 0 0))
          have HBf5 := Lib.hid ((((HB5.out.setCell (p := ⟨c0 + 1 + 1 + 1, 0, none⟩) (by simp only; omega) (.int .i64 0)).setCell (p := ⟨c0 + 1 + 1 + 1, 1, none⟩) (by simp only; omega) (.int .i64 0)).setCell (p := ⟨c0 + 1 + 1 + 1, 2, none⟩) (by simp only; omega) (.int .i64 0)).setCell (p := ⟨c0 + 1 + 1 + 1, 3, none⟩) (by simp only; omega) (.slice none 0 0))
          have q0 : _ = some (Value.int .i64 n.x) := h5.cell 0
          have q1 : _ = some (Value.int .i64 n.y) := h5.cell 1
          have q2 : _ = some (Value.int .i64 n.z) := h5.cell 2
          clear hc0
          go_loopg [16] 3 (fun g i wx => wx = w5 ∧ ((g = 3 ∧ i = .int .i64 0) ∨ (g = 2 ∧ i = .int .i64 1 ∧ -1048576 ≤ n.x ∧ n.x ≤ 1048576) ∨ (g = 1 ∧ i = .int .i64 2 ∧ -1048576 ≤ n.x ∧ n.x ≤ 1048576 ∧ -1048576 ≤ n.y ∧ n.y ≤ 1048576) ∨ (g = 0 ∧ i = .int .i64 3 ∧ -1048576 ≤ n.x ∧ n.x ≤ 1048576 ∧ -1048576 ≤ n.y ∧ n.y ≤ 1048576 ∧ -1048576 ≤ n.z ∧ n.z ≤ 1048576)))
          case atStart => exact ⟨rfl, .inl ⟨rfl, rfl⟩⟩
          case round =>
            obtain ⟨rfl, hrel⟩ := hrel
            rcases hrel with ⟨rfl, rfl⟩ | ⟨rfl, rfl, ha1, ha2⟩ | ⟨rfl, rfl, ha1, ha2, ha3, ha4⟩ | ⟨rfl, rfl, ha1, ha2, ha3, ha4, ha5, ha6⟩
            · by_cases hbig : 1048576 < n.x
              · go_wp2
                obtain ⟨w9, hw9⟩ : ∃ w9, ((((wr.setCell ⟨c0 + 1 + 1 + 1, 0, none⟩ (.int .i64 0)).setCell ⟨c0 + 1 + 1 + 1, 1, none⟩ (.int .i64 0)).setCell ⟨c0 + 1 + 1 + 1, 2, none⟩ (.int .i64 0)).setCell ⟨c0 + 1 + 1 + 1, 3, none⟩ (.slice none 0 0)) = w9 := ⟨_, rfl⟩
                rw [hw9] at Hfin5 HBf5 ⊢
                have r0 : _ = some (Value.int .i64 0) := Hfin5.out.cell 0
                have r1 : _ = some (Value.int .i64 0) := Hfin5.out.cell 1
                have r2 : _ = some (Value.int .i64 0) := Hfin5.out.cell 2
                have r3 : _ = some (Value.slice none 0 0) := Hfin5.out.cell 3
                exact bodyPost_ret (v := .tuple #[patV ⟨0, 0, 0⟩ (.slice none 0 0), .bool false]) (by simp [results, Try.f6, go_sem, r0, r1, r2, r3]) rfl ⟨rfl, HBf5.out⟩
              · by_cases hlow : n.x < -1048576
                · go_wp2
                  obtain ⟨w9, hw9⟩ : ∃ w9, ((((wr.setCell ⟨c0 + 1 + 1 + 1, 0, none⟩ (.int .i64 0)).setCell ⟨c0 + 1 + 1 + 1, 1, none⟩ (.int .i64 0)).setCell ⟨c0 + 1 + 1 + 1, 2, none⟩ (.int .i64 0)).setCell ⟨c0 + 1 + 1 + 1, 3, none⟩ (.slice none 0 0)) = w9 := ⟨_, rfl⟩
                  rw [hw9] at Hfin5 HBf5 ⊢
                  have r0 : _ = some (Value.int .i64 0) := Hfin5.out.cell 0
                  have r1 : _ = some (Value.int .i64 0) := Hfin5.out.cell 1
                  have r2 : _ = some (Value.int .i64 0) := Hfin5.out.cell 2
                  have r3 : _ = some (Value.slice none 0 0) := Hfin5.out.cell 3
                  exact bodyPost_ret (v := .tuple #[patV ⟨0, 0, 0⟩ (.slice none 0 0), .bool false]) (by simp [results, Try.f6, go_sem, r0, r1, r2, r3]) rfl ⟨rfl, HBf5.out⟩
                · go_wp2
                  go_roundg 2
                  case rel => exact ⟨rfl, .inr (.inl ⟨rfl, rfl, by omega, by omega⟩)⟩
                  case measure => omega
            · by_cases hbig : 1048576 < n.y
              · go_wp2
                obtain ⟨w9, hw9⟩ : ∃ w9, ((((wr.setCell ⟨c0 + 1 + 1 + 1, 0, none⟩ (.int .i64 0)).setCell ⟨c0 + 1 + 1 + 1, 1, none⟩ (.int .i64 0)).setCell ⟨c0 + 1 + 1 + 1, 2, none⟩ (.int .i64 0)).setCell ⟨c0 + 1 + 1 + 1, 3, none⟩ (.slice none 0 0)) = w9 := ⟨_, rfl⟩
                rw [hw9] at Hfin5 HBf5 ⊢
                have r0 : _ = some (Value.int .i64 0) := Hfin5.out.cell 0
                have r1 : _ = some (Value.int .i64 0) := Hfin5.out.cell 1
                have r2 : _ = some (Value.int .i64 0) := Hfin5.out.cell 2
                have r3 : _ = some (Value.slice none 0 0) := Hfin5.out.cell 3
                exact bodyPost_ret (v := .tuple #[patV ⟨0, 0, 0⟩ (.slice none 0 0), .bool false]) (by simp [results, Try.f6, go_sem, r0, r1, r2, r3]) rfl ⟨rfl, HBf5.out⟩
              · by_cases hlow : n.y < -1048576
                · go_wp2
                  obtain ⟨w9, hw9⟩ : ∃ w9, ((((wr.setCell ⟨c0 + 1 + 1 + 1, 0, none⟩ (.int .i64 0)).setCell ⟨c0 + 1 + 1 + 1, 1, none⟩ (.int .i64 0)).setCell ⟨c0 + 1 + 1 + 1, 2, none⟩ (.int .i64 0)).setCell ⟨c0 + 1 + 1 + 1, 3, none⟩ (.slice none 0 0)) = w9 := ⟨_, rfl⟩
                  rw [hw9] at Hfin5 HBf5 ⊢
                  have r0 : _ = some (Value.int .i64 0) := Hfin5.out.cell 0
                  have r1 : _ = some (Value.int .i64 0) := Hfin5.out.cell 1
                  have r2 : _ = some (Value.int .i64 0) := Hfin5.out.cell 2
                  have r3 : _ = some (Value.slice none 0 0) := Hfin5.out.cell 3
                  exact bodyPost_ret (v := .tuple #[patV ⟨0, 0, 0⟩ (.slice none 0 0), .bool false]) (by simp [results, Try.f6, go_sem, r0, r1, r2, r3]) rfl ⟨rfl, HBf5.out⟩
                · go_wp2
                  go_roundg 1
                  case rel => exact ⟨rfl, .inr (.inr (.inl ⟨rfl, rfl, ha1, ha2, by omega, by omega⟩))⟩
                  case measure => omega
            · by_cases hbig : 1048576 < n.z
              · go_wp2
                obtain ⟨w9, hw9⟩ : ∃ w9, ((((wr.setCell ⟨c0 + 1 + 1 + 1, 0, none⟩ (.int .i64 0)).setCell ⟨c0 + 1 + 1 + 1, 1, none⟩ (.int .i64 0)).setCell ⟨c0 + 1 + 1 + 1, 2, none⟩ (.int .i64 0)).setCell ⟨c0 + 1 + 1 + 1, 3, none⟩ (.slice none 0 0)) = w9 := ⟨_, rfl⟩
                rw [hw9] at Hfin5 HBf5 ⊢
                have r0 : _ = some (Value.int .i64 0) := Hfin5.out.cell 0
                have r1 : _ = some (Value.int .i64 0) := Hfin5.out.cell 1
                have r2 : _ = some (Value.int .i64 0) := Hfin5.out.cell 2
                have r3 : _ = some (Value.slice none 0 0) := Hfin5.out.cell 3
                exact bodyPost_ret (v := .tuple #[patV ⟨0, 0, 0⟩ (.slice none 0 0), .bool false]) (by simp [results, Try.f6, go_sem, r0, r1, r2, r3]) rfl ⟨rfl, HBf5.out⟩
              · by_cases hlow : n.z < -1048576
                · go_wp2
                  obtain ⟨w9, hw9⟩ : ∃ w9, ((((wr.setCell ⟨c0 + 1 + 1 + 1, 0, none⟩ (.int .i64 0)).setCell ⟨c0 + 1 + 1 + 1, 1, none⟩ (.int .i64 0)).setCell ⟨c0 + 1 + 1 + 1, 2, none⟩ (.int .i64 0)).setCell ⟨c0 + 1 + 1 + 1, 3, none⟩ (.slice none 0 0)) = w9 := ⟨_, rfl⟩
                  rw [hw9] at Hfin5 HBf5 ⊢
                  have r0 : _ = some (Value.int .i64 0) := Hfin5.out.cell 0
                  have r1 : _ = some (Value.int .i64 0) := Hfin5.out.cell 1
                  have r2 : _ = some (Value.int .i64 0) := Hfin5.out.cell 2
                  have r3 : _ = some (Value.slice none 0 0) := Hfin5.out.cell 3
                  exact bodyPost_ret (v := .tuple #[patV ⟨0, 0, 0⟩ (.slice none 0 0), .bool false]) (by simp [results, Try.f6, go_sem, r0, r1, r2, r3]) rfl ⟨rfl, HBf5.out⟩
                · go_wp2
                  go_roundg 0
                  case rel => exact ⟨rfl, .inr (.inr (.inr ⟨rfl, rfl, ha1, ha2, ha3, ha4, by omega, by omega⟩))⟩
                  case measure => omega
            · exfalso
              have := Hfar.out
              omega
end Go.Proofs.Ytpbpdgknjbjlcaa
