/- Contacts: Touch where it goes on and the owner is the second. -/
import Derived.Test.YtpbpdgknjbjlcaaDf
import Derived.Laws.EntriesVeiled
import Derived.BigRegion
namespace Go.Proofs.Ytpbpdgknjbjlcaa
open Go.RowKit
set_option maxRecDepth 100000 in
set_option maxHeartbeats 2000000 in
theorem touch5_B (pva ava eva pvb avb evb : Value) (a b : Cor) (n : Pt) (gap within : Int) (w : World) (pa : Rd w pva a.P.length 3 (ptCells a.P)) (aa : Rd w ava a.A.length 3 (ptCells a.A)) (ea : Rd w eva a.E.length 3 (ptCells a.E)) (pb : Rd w pvb b.P.length 3 (ptCells b.P)) (ab : Rd w avb b.A.length 3 (ptCells b.A)) (eb : Rd w evb b.E.length 3 (ptCells b.E)) (hw : -1099511627776 < within ∧ within < 1099511627776) (hgo : goB a b n gap within = true) (hlt0 : ¬ spreadL ((fronA a n).map (ptAt a.P)) < spreadL ((fronB b n).map (ptAt b.P))) :
    Calls Try.prog 5 #[corV pva ava eva a.r, corV pvb avb evb b.r, apV n gap, .int .i64 within] w fun e w' => ((spotsP a b n within = [] ∧ e = .returned (.tuple #[patV ⟨0, 0, 0⟩ (.slice none 0 0), .bool false])) ∨ (spotsP a b n within ≠ [] ∧ ∃ v r, IsFour (spotsP a b n within) r ∧ Rd w' v r.length 5 (spCells r) ∧ e = .returned (.tuple #[patV n v, .bool true]))) ∧ Below w.heap.size w w' := by
  obtain ⟨pa0, pa1, rfl, ca1, ca2⟩ := pa.shape
  obtain ⟨aa0, aa1, rfl, ca3, ca4⟩ := aa.shape
  obtain ⟨ea0, ea1, rfl, ca5, ca6⟩ := ea.shape
  obtain ⟨pb0, pb1, rfl, cb1, cb2⟩ := pb.shape
  obtain ⟨ab0, ab1, rfl, cb3, cb4⟩ := ab.shape
  obtain ⟨eb0, eb1, rfl, cb5, cb6⟩ := eb.shape
  clear ca1 ca2 ca3 ca4 ca5 ca6 cb1 cb2 cb3 cb4 cb5 cb6
  have Hlt := Lib.hid hlt0
  clear hlt0
  have hgo' := hgo
  unfold goB at hgo'
  simp only [Bool.and_eq_true, decide_eq_true_eq, Bool.not_eq_true', beq_eq_false_iff_ne] at hgo'
  obtain ⟨⟨⟨⟨hma, hmb⟩, hs0⟩, hgw⟩, hnn⟩ := hgo'
  have FA := may_facts hma
  have FB := may_facts hmb
  have hpos := up_pos hs0
  have hrg := small_range n
  have hn24 : Near 16777216 n := nearB_iff.1 hpos.2.2
  have hax := axis_small hpos.2.2
  have hn20 := nearB_iff.1 hnn
  have hra := lohi24 hn24 a.P FA.np
  have hrb := lohi24 hn24 b.P FB.np
  have hneA : a.P ≠ [] := by intro h; have := FA.p0; rw [h] at this; simp at this
  have hneB : b.P ≠ [] := by intro h; have := FB.p0; rw [h] at this; simp at this
  have hfA := fronA_ne hneA (n := n) (by omega)
  have hfB := fronB_ne hneB (n := n) (by omega)
  obtain ⟨sm, hsm⟩ : ∃ v, v = smallP n := ⟨_, rfl⟩
  obtain ⟨up, hup⟩ : ∃ v, v = upP n := ⟨_, rfl⟩
  have HSm := Lib.hid hsm
  have HUp := Lib.hid hup
  rw [← hsm] at hs0 hpos hax
  rw [← hsm, ← hup] at hrg
  rw [← hup] at hpos
  obtain ⟨low, hlow⟩ : ∃ v, v = loL n b.P := ⟨_, rfl⟩
  obtain ⟨high, hhigh⟩ : ∃ v, v = hiL n a.P := ⟨_, rfl⟩
  have hlr := hrb.1
  have hhr := hra.2
  rw [← hlow] at hlr
  rw [← hhigh] at hhr
  have Hlow := Lib.hid hlow
  have Hhigh := Lib.hid hhigh
  have HN24 := Lib.hid hn24
  have HPA := Lib.hid pa
  have HPB := Lib.hid pb
  have Hax := Lib.hid hax
  have hsb : (sm == 0) = false := by simpa using hs0
  obtain ⟨hp1, hp2, -⟩ := hpos
  obtain ⟨sr0, sr1, sr2, sr3⟩ := hrg
  clear hsm hup hlow hhigh hra hrb hax hgo
  have HMa := Lib.hid hma
  have HMb := Lib.hid hmb
  have HA : Hid (∀ W blk, Below w.heap.size w W → Blk W blk 26 [.int .i64 0, .int .i64 0, .int .i64 0] → Calls Try.prog 8 #[corV (Value.slice pa0 a.P.length pa1) (Value.slice aa0 a.A.length aa1) (Value.slice ea0 a.E.length ea1) a.r, .agg #[.slice (some ⟨blk, 0, none⟩) 1 1, .slice none 0 0, .slice none 0 0, .int .i64 0]] W fun e W' => (∃ p g, e = .returned (.tuple #[apV p g, .bool (mayB a)])) ∧ Below W.heap.size W W') := Lib.hid fun W blk hW hb => apart_zero (Value.slice pa0 a.P.length pa1) (Value.slice aa0 a.A.length aa1) (Value.slice ea0 a.E.length ea1) a W blk (pa.new hW) (aa.new hW) (ea.new hW) hb
  have HB : Hid (∀ W blk, Below w.heap.size w W → Blk W blk 26 [.int .i64 0, .int .i64 0, .int .i64 0] → Calls Try.prog 8 #[corV (Value.slice pb0 b.P.length pb1) (Value.slice ab0 b.A.length ab1) (Value.slice eb0 b.E.length eb1) b.r, .agg #[.slice (some ⟨blk, 0, none⟩) 1 1, .slice none 0 0, .slice none 0 0, .int .i64 0]] W fun e W' => (∃ p g, e = .returned (.tuple #[apV p g, .bool (mayB b)])) ∧ Below W.heap.size W W') := Lib.hid fun W blk hW hb => apart_zero (Value.slice pb0 b.P.length pb1) (Value.slice ab0 b.A.length ab1) (Value.slice eb0 b.E.length eb1) b W blk (pb.new hW) (ab.new hW) (eb.new hW) hb
  obtain ⟨w1, hw1⟩ : ∃ w1, ((((w.alloc (.cells [(Value.slice pa0 a.P.length pa1), (Value.slice aa0 a.A.length aa1), (Value.slice ea0 a.E.length ea1), .int .i64 a.r].toArray 24)).alloc (.cells [(Value.slice pb0 b.P.length pb1), (Value.slice ab0 b.A.length ab1), (Value.slice eb0 b.E.length eb1), .int .i64 b.r].toArray 24)).alloc (.cells [.int .i64 n.x, .int .i64 n.y, .int .i64 n.z, .int .i64 gap].toArray 28)).alloc (.cells [.int .i64 0, .int .i64 0, .int .i64 0, .slice none 0 0].toArray 32)).alloc (.cells n.cells.toArray 26) = w1 := ⟨_, rfl⟩
  obtain ⟨c0, hc0⟩ : ∃ c, c = w.heap.size := ⟨_, rfl⟩
  have B0 : Below w.heap.size w w1 := by rw [← hw1]; exact (((((Below.refl _ w).alloc (Nat.le_refl _) _).alloc (by simp) _).alloc (by simp; omega) _).alloc (by simp; omega) _).alloc (by simp; omega) _
  have hb0 : Blk w1 c0 24 [(Value.slice pa0 a.P.length pa1), (Value.slice aa0 a.A.length aa1), (Value.slice ea0 a.E.length ea1), .int .i64 a.r] := by rw [← hw1, hc0]; exact ((((Blk.newAt (w := w) rfl 24 [(Value.slice pa0 a.P.length pa1), (Value.slice aa0 a.A.length aa1), (Value.slice ea0 a.E.length ea1), .int .i64 a.r]).alloc _).alloc _).alloc _).alloc _
  have hb1 : Blk w1 (c0 + 1) 24 [(Value.slice pb0 b.P.length pb1), (Value.slice ab0 b.A.length ab1), (Value.slice eb0 b.E.length eb1), .int .i64 b.r] := by rw [← hw1, hc0]; exact (((Blk.newAt (w := w.alloc _) (by simp) 24 [(Value.slice pb0 b.P.length pb1), (Value.slice ab0 b.A.length ab1), (Value.slice eb0 b.E.length eb1), .int .i64 b.r]).alloc _).alloc _).alloc _
  have hb2 : Blk w1 (c0 + 1 + 1) 28 [.int .i64 n.x, .int .i64 n.y, .int .i64 n.z, .int .i64 gap] := by rw [← hw1, hc0]; exact ((Blk.newAt (w := (w.alloc _).alloc _) (by simp) 28 [.int .i64 n.x, .int .i64 n.y, .int .i64 n.z, .int .i64 gap]).alloc _).alloc _
  have hb3 : Blk w1 (c0 + 1 + 1 + 1) 32 [.int .i64 0, .int .i64 0, .int .i64 0, .slice none 0 0] := by rw [← hw1, hc0]; exact (Blk.newAt (w := ((w.alloc _).alloc _).alloc _) (by simp) 32 [.int .i64 0, .int .i64 0, .int .i64 0, .slice none 0 0]).alloc _
  have hb4 : Blk w1 (c0 + 1 + 1 + 1 + 1) 26 n.cells := by rw [← hw1, hc0]; exact Blk.newAt (w := (((w.alloc _).alloc _).alloc _).alloc _) (by simp) 26 n.cells
  have x0 : ((((w.alloc (.cells [(Value.slice pa0 a.P.length pa1), (Value.slice aa0 a.A.length aa1), (Value.slice ea0 a.E.length ea1), .int .i64 a.r].toArray 24)).alloc (.cells [(Value.slice pb0 b.P.length pb1), (Value.slice ab0 b.A.length ab1), (Value.slice eb0 b.E.length eb1), .int .i64 b.r].toArray 24)).alloc (.cells [.int .i64 n.x, .int .i64 n.y, .int .i64 n.z, .int .i64 gap].toArray 28))).cell? ⟨w.heap.size + 1 + 1, 0, none⟩ = some (.int .i64 n.x) := (Blk.newAt (w := (w.alloc _).alloc _) (by simp) 28 [.int .i64 n.x, .int .i64 n.y, .int .i64 n.z, .int .i64 gap]).cell 0
  clear pa aa ea pb ab eb x0
  go_enter Try.func5, Try.ntmps5
  go_upto_region 2 with (fail)
  change Code.wp _ _ _ _ (((((w.alloc (.cells [(Value.slice pa0 a.P.length pa1), (Value.slice aa0 a.A.length aa1), (Value.slice ea0 a.E.length ea1), .int .i64 a.r].toArray 24)).alloc (.cells [(Value.slice pb0 b.P.length pb1), (Value.slice ab0 b.A.length ab1), (Value.slice eb0 b.E.length eb1), .int .i64 b.r].toArray 24)).alloc (.cells [.int .i64 n.x, .int .i64 n.y, .int .i64 n.z, .int .i64 gap].toArray 28)).alloc (.cells [.int .i64 0, .int .i64 0, .int .i64 0, .slice none 0 0].toArray 32)).alloc (.cells n.cells.toArray 26))
  rw [hw1]
  clear hw1
  simp only [← hc0]
  have Hc0 := Lib.hid hc0
  have HB1 := Lib.hid B0
  have hs1 := B0.size
  have k0 : _ = some (Value.int .i64 n.x) := hb4.cell 0
  have k1 : _ = some (Value.int .i64 n.y) := hb4.cell 1
  have k2 : _ = some (Value.int .i64 n.z) := hb4.cell 2
  have Hb0 := Lib.hid hb0
  have Hb1 := Lib.hid hb1
  have Hb2 := Lib.hid hb2
  have Hb3 := Lib.hid hb3
  have Hb4 := Lib.hid hb4
  clear hc0 B0 hb0 hb1 hb2 hb3 hb4
  go_wp2_with fail
  refine (sizes9_any n w1).mono ?_
  rintro e w2 ⟨rfl, hB2⟩
  have HB2 := Lib.hid (HB1.out.trans (hB2.mono hs1))
  have hs2 := HB2.out.size
  have Hb02 := Lib.hid (Hb0.out.below hB2 Hb0.out.lt)
  have Hb12 := Lib.hid (Hb1.out.below hB2 Hb1.out.lt)
  have Hb22 := Lib.hid (Hb2.out.below hB2 Hb2.out.lt)
  have Hb32 := Lib.hid (Hb3.out.below hB2 Hb3.out.lt)
  have Hb42 := Lib.hid (Hb4.out.below hB2 Hb4.out.lt)
  clear k0 k1 k2 hB2 Hb0 Hb1 Hb2 Hb3 Hb4 HB1 hs1
  rw [← HSm.out, ← HUp.out]
  have k0 : _ = some (Value.slice pa0 a.P.length pa1) := Hb02.out.cell 0
  have k1 : _ = some (Value.slice aa0 a.A.length aa1) := Hb02.out.cell 1
  have k2 : _ = some (Value.slice ea0 a.E.length ea1) := Hb02.out.cell 2
  have k3 : _ = some (Value.int .i64 a.r) := Hb02.out.cell 3
  have hB3 : Below w2.heap.size w2 (w2.alloc (.cells #[.int .i64 0, .int .i64 0, .int .i64 0] 26)) := (Below.refl _ w2).alloc (Nat.le_refl _) _
  have lc0 := Hb02.out.lt
  go_wp2_with fail
  refine (HA.out _ w2.heap.size (HB2.out.trans (hB3.mono hs2)) (Blk.new w2 26 [.int .i64 0, .int .i64 0, .int .i64 0])).mono ?_
  rintro e w3 ⟨⟨px, gx, rfl⟩, hB3b⟩
  rw [HMa.out]
  have hB33 := (hB3.trans (hB3b.mono hB3.size)).alloc (hB3.trans (hB3b.mono hB3.size)).size (.cells #[.int .i64 px.x, .int .i64 px.y, .int .i64 px.z, .int .i64 gx] 28)
  have HB3 := Lib.hid (HB2.out.trans (hB33.mono hs2))
  have Hb03 := Lib.hid (Hb02.out.below hB33 Hb02.out.lt)
  have Hb13 := Lib.hid (Hb12.out.below hB33 Hb12.out.lt)
  have Hb23 := Lib.hid (Hb22.out.below hB33 Hb22.out.lt)
  have Hb33 := Lib.hid (Hb32.out.below hB33 Hb32.out.lt)
  have Hb43 := Lib.hid (Hb42.out.below hB33 Hb42.out.lt)
  clear k0 k1 k2 k3 hB3 hB3b hB33 Hb02 Hb12 Hb22 Hb32 Hb42 HB2 hs2 lc0
  go_upto_region 4 with (fail)
  obtain ⟨w4, hw4⟩ : ∃ w4, w3.alloc (.cells #[.int .i64 px.x, .int .i64 px.y, .int .i64 px.z, .int .i64 gx] 28) = w4 := ⟨_, rfl⟩
  rw [hw4] at HB3 Hb03 Hb13 Hb23 Hb33 Hb43 ⊢
  clear hw4
  have hs4 := HB3.out.size
  have k0 : _ = some (Value.slice pb0 b.P.length pb1) := Hb13.out.cell 0
  have k1 : _ = some (Value.slice ab0 b.A.length ab1) := Hb13.out.cell 1
  have k2 : _ = some (Value.slice eb0 b.E.length eb1) := Hb13.out.cell 2
  have k3 : _ = some (Value.int .i64 b.r) := Hb13.out.cell 3
  have hB4 : Below w4.heap.size w4 (w4.alloc (.cells #[.int .i64 0, .int .i64 0, .int .i64 0] 26)) := (Below.refl _ w4).alloc (Nat.le_refl _) _
  have lc1 := Hb13.out.lt
  go_wp2_with fail
  refine (HB.out _ w4.heap.size (HB3.out.trans (hB4.mono hs4)) (Blk.new w4 26 [.int .i64 0, .int .i64 0, .int .i64 0])).mono ?_
  rintro e w5 ⟨⟨qx, hx, rfl⟩, hB5b⟩
  rw [HMb.out]
  have hB55 := (hB4.trans (hB5b.mono hB4.size)).alloc (hB4.trans (hB5b.mono hB4.size)).size (.cells #[.int .i64 qx.x, .int .i64 qx.y, .int .i64 qx.z, .int .i64 hx] 28)
  have HB5 := Lib.hid (HB3.out.trans (hB55.mono hs4))
  have Hb05 := Lib.hid (Hb03.out.below hB55 Hb03.out.lt)
  have Hb15 := Lib.hid (Hb13.out.below hB55 Hb13.out.lt)
  have Hb25 := Lib.hid (Hb23.out.below hB55 Hb23.out.lt)
  have Hb35 := Lib.hid (Hb33.out.below hB55 Hb33.out.lt)
  have Hb45 := Lib.hid (Hb43.out.below hB55 Hb43.out.lt)
  clear k0 k1 k2 k3 hB4 hB5b hB55 Hb03 Hb13 Hb23 Hb33 Hb43 HB3 hs4 lc1
  go_upto_region 5 with (fail)
  obtain ⟨w6, hw6⟩ : ∃ w6, w5.alloc (.cells #[.int .i64 qx.x, .int .i64 qx.y, .int .i64 qx.z, .int .i64 hx] 28) = w6 := ⟨_, rfl⟩
  rw [hw6] at HB5 Hb05 Hb15 Hb25 Hb35 Hb45 ⊢
  clear hw6
  have hs6 := HB5.out.size
  have g3 : _ = some (Value.int .i64 gap) := Hb25.out.cell 3
  have k0 : _ = some (Value.int .i64 n.x) := Hb45.out.cell 0
  have k1 : _ = some (Value.int .i64 n.y) := Hb45.out.cell 1
  have k2 : _ = some (Value.int .i64 n.z) := Hb45.out.cell 2
  obtain ⟨M, hmx⟩ : ∃ M, (if (if n.x < n.y then n.y else n.x) < n.z then n.z else (if n.x < n.y then n.y else n.x)) = M := ⟨_, rfl⟩
  obtain ⟨m, hmn⟩ : ∃ m, (if n.z < (if n.y < n.x then n.y else n.x) then n.z else (if n.y < n.x then n.y else n.x)) = m := ⟨_, rfl⟩
  have hMm : M ≤ 1048576 ∧ -1048576 ≤ m := by
    unfold Near at hn20
    rw [← hmx, ← hmn]
    constructor
    all_goals repeat' split
    all_goals omega
  obtain ⟨hM, hm'⟩ := hMm
  clear HA HB
  go_upto_region 7 with (fail)
  clear hmx hmn g3
  have i0 : _ = some (Value.slice pa0 a.P.length pa1) := Hb05.out.cell 0
  have i1 : _ = some (Value.slice aa0 a.A.length aa1) := Hb05.out.cell 1
  have i2 : _ = some (Value.slice ea0 a.E.length ea1) := Hb05.out.cell 2
  have i3 : _ = some (Value.int .i64 a.r) := Hb05.out.cell 3
  go_wp2_with fail
  refine (reach_call (Value.slice pa0 a.P.length pa1) (Value.slice aa0 a.A.length aa1) (Value.slice ea0 a.E.length ea1) a.r a.P n w6 (HPA.out.new HB5.out) HN24.out FA.np hneA).mono ?_
  rintro e w7 ⟨rfl, hB7⟩
  rw [← Hhigh.out]
  have hB8 := hB7.alloc hB7.size (.cells #[.int .i64 high] 3)
  have H18 := Lib.hid (Blk.newAt (w := w7) rfl 3 [.int .i64 high])
  obtain ⟨LA, hLA⟩ : ∃ v, v = loL n a.P := ⟨_, rfl⟩
  rw [← hLA]
  have HB8 := Lib.hid (HB5.out.trans (hB8.mono hs6))
  have Hb08 := Lib.hid (Hb05.out.below hB8 Hb05.out.lt)
  have Hb18 := Lib.hid (Hb15.out.below hB8 Hb15.out.lt)
  have Hb38 := Lib.hid (Hb35.out.below hB8 Hb35.out.lt)
  have Hb48 := Lib.hid (Hb45.out.below hB8 Hb45.out.lt)
  have ht18 : w.heap.size ≤ w7.heap.size := Nat.le_trans hs6 hB7.size
  clear i0 i1 i2 i3 k0 k1 k2 hB7 hB8 Hb05 Hb15 Hb25 Hb35 Hb45 HB5 hs6 hLA
  go_upto_region 8 with (fail)
  obtain ⟨w8, hw8⟩ : ∃ w8, w7.alloc (.cells #[.int .i64 high] 3) = w8 := ⟨_, rfl⟩
  obtain ⟨t18, ht18e⟩ : ∃ v, v = w7.heap.size := ⟨_, rfl⟩
  rw [hw8] at H18 HB8 Hb08 Hb18 Hb38 Hb48 ⊢
  rw [← ht18e] at H18 ht18 ⊢
  clear hw8 ht18e
  have hs8 := HB8.out.size
  have k0 : _ = some (Value.int .i64 n.x) := Hb48.out.cell 0
  have k1 : _ = some (Value.int .i64 n.y) := Hb48.out.cell 1
  have k2 : _ = some (Value.int .i64 n.z) := Hb48.out.cell 2
  have i0 : _ = some (Value.slice pb0 b.P.length pb1) := Hb18.out.cell 0
  have i1 : _ = some (Value.slice ab0 b.A.length ab1) := Hb18.out.cell 1
  have i2 : _ = some (Value.slice eb0 b.E.length eb1) := Hb18.out.cell 2
  have i3 : _ = some (Value.int .i64 b.r) := Hb18.out.cell 3
  go_wp2_with fail
  refine (reach_call (Value.slice pb0 b.P.length pb1) (Value.slice ab0 b.A.length ab1) (Value.slice eb0 b.E.length eb1) b.r b.P n w8 (HPB.out.new HB8.out) HN24.out FB.np hneB).mono ?_
  rintro e w9 ⟨rfl, hB9⟩
  rw [← Hlow.out]
  have hB10 := hB9.alloc hB9.size (.cells #[.int .i64 low] 3)
  have H19 := Lib.hid (Blk.newAt (w := w9) rfl 3 [.int .i64 low])
  obtain ⟨GB, hGB⟩ : ∃ v, v = hiL n b.P := ⟨_, rfl⟩
  rw [← hGB]
  have HB10 := Lib.hid (HB8.out.trans (hB10.mono hs8))
  have Hb010 := Lib.hid (Hb08.out.below hB10 Hb08.out.lt)
  have Hb110 := Lib.hid (Hb18.out.below hB10 Hb18.out.lt)
  have Hb310 := Lib.hid (Hb38.out.below hB10 Hb38.out.lt)
  have Hb410 := Lib.hid (Hb48.out.below hB10 Hb48.out.lt)
  have H1810 := Lib.hid (H18.out.below hB10 H18.out.lt)
  have ht19 : w.heap.size ≤ w9.heap.size := Nat.le_trans hs8 hB9.size
  clear i0 i1 i2 i3 k0 k1 k2 hB9 hB10 Hb08 Hb18 Hb38 Hb48 HB8 hs8 H18 hGB
  go_upto_region 9 with (fail)
  obtain ⟨w10, hw10⟩ : ∃ w10, w9.alloc (.cells #[.int .i64 low] 3) = w10 := ⟨_, rfl⟩
  obtain ⟨t19, ht19e⟩ : ∃ v, v = w9.heap.size := ⟨_, rfl⟩
  rw [hw10] at H19 HB10 Hb010 Hb110 Hb310 Hb410 H1810 ⊢
  rw [← ht19e] at H19 ht19 ⊢
  clear hw10 ht19e
  have hs10 := HB10.out.size
  have Hb0_10 := Hb010
  have Hb1_10 := Hb110
  have Hb3_10 := Hb310
  have Hb4_10 := Hb410
  have H18_10 := H1810
  have H19_10 := Lib.hid H19
  clear Hb010 Hb110 Hb310 Hb410 H1810 H19
  have k0 : _ = some ((Value.slice pa0 a.P.length pa1)) := Hb0_10.out.cell 0
  have k1 : _ = some ((Value.slice aa0 a.A.length aa1)) := Hb0_10.out.cell 1
  have k2 : _ = some ((Value.slice ea0 a.E.length ea1)) := Hb0_10.out.cell 2
  have k3 : _ = some (Value.int .i64 a.r) := Hb0_10.out.cell 3
  have i0 : _ = some ((Value.slice pb0 b.P.length pb1)) := Hb1_10.out.cell 0
  have i1 : _ = some ((Value.slice ab0 b.A.length ab1)) := Hb1_10.out.cell 1
  have i2 : _ = some ((Value.slice eb0 b.E.length eb1)) := Hb1_10.out.cell 2
  have i3 : _ = some (Value.int .i64 b.r) := Hb1_10.out.cell 3
  go_upto_region 10 with (fail)
  clear k0 k1 k2 k3 i0 i1 i2 i3
  change Code.wp _ _ _ _ (w10.alloc (.cells #[(Value.slice pa0 a.P.length pa1), (Value.slice aa0 a.A.length aa1), (Value.slice ea0 a.E.length ea1), .int .i64 a.r, .func (.func 11) #[] #[.pointer (some ⟨t18, 0, none⟩), .pointer (some ⟨c0 + 1 + 1 + 1 + 1, 0, none⟩)], .func (.func 13) #[] #[.pointer (some ⟨c0 + 1 + 1 + 1 + 1, 0, none⟩), .pointer (some ⟨t19, 0, none⟩)], .int .i64 1, .int .i64 0, (Value.slice pb0 b.P.length pb1), (Value.slice ab0 b.A.length ab1), (Value.slice eb0 b.E.length eb1), .int .i64 b.r, .func (.func 14) #[] #[.pointer (some ⟨c0 + 1 + 1 + 1 + 1, 0, none⟩), .pointer (some ⟨t19, 0, none⟩)], .func (.func 15) #[] #[.pointer (some ⟨t18, 0, none⟩), .pointer (some ⟨c0 + 1 + 1 + 1 + 1, 0, none⟩)], .int .i64 (-1), .int .i64 256] 47))
  obtain ⟨w11, hw11⟩ : ∃ w11, w10.alloc (.cells #[(Value.slice pa0 a.P.length pa1), (Value.slice aa0 a.A.length aa1), (Value.slice ea0 a.E.length ea1), .int .i64 a.r, .func (.func 11) #[] #[.pointer (some ⟨t18, 0, none⟩), .pointer (some ⟨c0 + 1 + 1 + 1 + 1, 0, none⟩)], .func (.func 13) #[] #[.pointer (some ⟨c0 + 1 + 1 + 1 + 1, 0, none⟩), .pointer (some ⟨t19, 0, none⟩)], .int .i64 1, .int .i64 0, (Value.slice pb0 b.P.length pb1), (Value.slice ab0 b.A.length ab1), (Value.slice eb0 b.E.length eb1), .int .i64 b.r, .func (.func 14) #[] #[.pointer (some ⟨c0 + 1 + 1 + 1 + 1, 0, none⟩), .pointer (some ⟨t19, 0, none⟩)], .func (.func 15) #[] #[.pointer (some ⟨t18, 0, none⟩), .pointer (some ⟨c0 + 1 + 1 + 1 + 1, 0, none⟩)], .int .i64 (-1), .int .i64 256] 47) = w11 := ⟨_, rfl⟩
  have hT : Below w10.heap.size w10 w11 := by rw [← hw11]; exact (Below.refl _ _).alloc (Nat.le_refl _) _
  have h21 : Blk w11 w10.heap.size 47 [(Value.slice pa0 a.P.length pa1), (Value.slice aa0 a.A.length aa1), (Value.slice ea0 a.E.length ea1), .int .i64 a.r, .func (.func 11) #[] #[.pointer (some ⟨t18, 0, none⟩), .pointer (some ⟨c0 + 1 + 1 + 1 + 1, 0, none⟩)], .func (.func 13) #[] #[.pointer (some ⟨c0 + 1 + 1 + 1 + 1, 0, none⟩), .pointer (some ⟨t19, 0, none⟩)], .int .i64 1, .int .i64 0, (Value.slice pb0 b.P.length pb1), (Value.slice ab0 b.A.length ab1), (Value.slice eb0 b.E.length eb1), .int .i64 b.r, .func (.func 14) #[] #[.pointer (some ⟨c0 + 1 + 1 + 1 + 1, 0, none⟩), .pointer (some ⟨t19, 0, none⟩)], .func (.func 15) #[] #[.pointer (some ⟨t18, 0, none⟩), .pointer (some ⟨c0 + 1 + 1 + 1 + 1, 0, none⟩)], .int .i64 (-1), .int .i64 256] := by rw [← hw11]; exact Blk.newAt (w := w10) rfl 47 [(Value.slice pa0 a.P.length pa1), (Value.slice aa0 a.A.length aa1), (Value.slice ea0 a.E.length ea1), .int .i64 a.r, .func (.func 11) #[] #[.pointer (some ⟨t18, 0, none⟩), .pointer (some ⟨c0 + 1 + 1 + 1 + 1, 0, none⟩)], .func (.func 13) #[] #[.pointer (some ⟨c0 + 1 + 1 + 1 + 1, 0, none⟩), .pointer (some ⟨t19, 0, none⟩)], .int .i64 1, .int .i64 0, (Value.slice pb0 b.P.length pb1), (Value.slice ab0 b.A.length ab1), (Value.slice eb0 b.E.length eb1), .int .i64 b.r, .func (.func 14) #[] #[.pointer (some ⟨c0 + 1 + 1 + 1 + 1, 0, none⟩), .pointer (some ⟨t19, 0, none⟩)], .func (.func 15) #[] #[.pointer (some ⟨t18, 0, none⟩), .pointer (some ⟨c0 + 1 + 1 + 1 + 1, 0, none⟩)], .int .i64 (-1), .int .i64 256]
  rw [hw11]
  clear hw11
  obtain ⟨t21, ht21e⟩ : ∃ v, v = w10.heap.size := ⟨_, rfl⟩
  rw [← ht21e] at h21 ⊢
  have ht21 : w.heap.size ≤ t21 := by rw [ht21e]; exact hs10
  clear ht21e
  have HB11 := Lib.hid (HB10.out.trans (hT.mono hs10))
  have hs11 := HB11.out.size
  have H21_11 := Lib.hid h21
  have Hb0_11 := Lib.hid (Hb0_10.out.below hT Hb0_10.out.lt)
  have Hb1_11 := Lib.hid (Hb1_10.out.below hT Hb1_10.out.lt)
  have Hb3_11 := Lib.hid (Hb3_10.out.below hT Hb3_10.out.lt)
  have Hb4_11 := Lib.hid (Hb4_10.out.below hT Hb4_10.out.lt)
  have H18_11 := Lib.hid (H18_10.out.below hT H18_10.out.lt)
  have H19_11 := Lib.hid (H19_10.out.below hT H19_10.out.lt)
  clear hT h21 HB10 hs10
  clear Hb0_10 Hb1_10 Hb3_10 Hb4_10 H18_10 H19_10
  have k0 : _ = some ((Value.slice pb0 b.P.length pb1)) := H21_11.out.cell 8
  have k1 : _ = some ((Value.slice ab0 b.A.length ab1)) := H21_11.out.cell 9
  have k2 : _ = some ((Value.slice eb0 b.E.length eb1)) := H21_11.out.cell 10
  have k3 : _ = some (Value.int .i64 b.r) := H21_11.out.cell 11
  have k4 : _ = some (Value.func (.func 14) #[] #[.pointer (some ⟨c0 + 1 + 1 + 1 + 1, 0, none⟩), .pointer (some ⟨t19, 0, none⟩)]) := H21_11.out.cell 12
  have k5 : _ = some (Value.func (.func 15) #[] #[.pointer (some ⟨t18, 0, none⟩), .pointer (some ⟨c0 + 1 + 1 + 1 + 1, 0, none⟩)]) := H21_11.out.cell 13
  have k6 : _ = some (Value.int .i64 (-1)) := H21_11.out.cell 14
  have k7 : _ = some (Value.int .i64 256) := H21_11.out.cell 15
  go_upto_region 11 with (fail)
  clear k0 k1 k2 k3 k4 k5 k6 k7
  change Code.wp _ _ _ _ (w11.alloc (.cells #[(Value.slice pb0 b.P.length pb1), (Value.slice ab0 b.A.length ab1), (Value.slice eb0 b.E.length eb1), .int .i64 b.r, .func (.func 14) #[] #[.pointer (some ⟨c0 + 1 + 1 + 1 + 1, 0, none⟩), .pointer (some ⟨t19, 0, none⟩)], .func (.func 15) #[] #[.pointer (some ⟨t18, 0, none⟩), .pointer (some ⟨c0 + 1 + 1 + 1 + 1, 0, none⟩)], .int .i64 (-1), .int .i64 256] 47))
  obtain ⟨w12, hw12⟩ : ∃ w12, w11.alloc (.cells #[(Value.slice pb0 b.P.length pb1), (Value.slice ab0 b.A.length ab1), (Value.slice eb0 b.E.length eb1), .int .i64 b.r, .func (.func 14) #[] #[.pointer (some ⟨c0 + 1 + 1 + 1 + 1, 0, none⟩), .pointer (some ⟨t19, 0, none⟩)], .func (.func 15) #[] #[.pointer (some ⟨t18, 0, none⟩), .pointer (some ⟨c0 + 1 + 1 + 1 + 1, 0, none⟩)], .int .i64 (-1), .int .i64 256] 47) = w12 := ⟨_, rfl⟩
  have hT : Below w11.heap.size w11 w12 := by rw [← hw12]; exact (Below.refl _ _).alloc (Nat.le_refl _) _
  have h22 : Blk w12 w11.heap.size 47 [(Value.slice pb0 b.P.length pb1), (Value.slice ab0 b.A.length ab1), (Value.slice eb0 b.E.length eb1), .int .i64 b.r, .func (.func 14) #[] #[.pointer (some ⟨c0 + 1 + 1 + 1 + 1, 0, none⟩), .pointer (some ⟨t19, 0, none⟩)], .func (.func 15) #[] #[.pointer (some ⟨t18, 0, none⟩), .pointer (some ⟨c0 + 1 + 1 + 1 + 1, 0, none⟩)], .int .i64 (-1), .int .i64 256] := by rw [← hw12]; exact Blk.newAt (w := w11) rfl 47 [(Value.slice pb0 b.P.length pb1), (Value.slice ab0 b.A.length ab1), (Value.slice eb0 b.E.length eb1), .int .i64 b.r, .func (.func 14) #[] #[.pointer (some ⟨c0 + 1 + 1 + 1 + 1, 0, none⟩), .pointer (some ⟨t19, 0, none⟩)], .func (.func 15) #[] #[.pointer (some ⟨t18, 0, none⟩), .pointer (some ⟨c0 + 1 + 1 + 1 + 1, 0, none⟩)], .int .i64 (-1), .int .i64 256]
  rw [hw12]
  clear hw12
  obtain ⟨t22, ht22e⟩ : ∃ v, v = w11.heap.size := ⟨_, rfl⟩
  rw [← ht22e] at h22 ⊢
  have ht22 : w.heap.size ≤ t22 := by rw [ht22e]; exact hs11
  have h2122 : t21 ≠ t22 := by have := H21_11.out.lt; omega
  clear ht22e
  have HB12 := Lib.hid (HB11.out.trans (hT.mono hs11))
  have hs12 := HB12.out.size
  have H22_12 := Lib.hid h22
  have Hb0_12 := Lib.hid (Hb0_11.out.below hT Hb0_11.out.lt)
  have Hb1_12 := Lib.hid (Hb1_11.out.below hT Hb1_11.out.lt)
  have Hb3_12 := Lib.hid (Hb3_11.out.below hT Hb3_11.out.lt)
  have Hb4_12 := Lib.hid (Hb4_11.out.below hT Hb4_11.out.lt)
  have H18_12 := Lib.hid (H18_11.out.below hT H18_11.out.lt)
  have H19_12 := Lib.hid (H19_11.out.below hT H19_11.out.lt)
  have H21_12 := Lib.hid (H21_11.out.below hT H21_11.out.lt)
  clear hT h22 HB11 hs11
  clear Hb0_11 Hb1_11 Hb3_11 Hb4_11 H18_11 H19_11 H21_11
  have k0 : _ = some ((Value.slice pb0 b.P.length pb1)) := H22_12.out.cell 0
  have k1 : _ = some ((Value.slice ab0 b.A.length ab1)) := H22_12.out.cell 1
  have k2 : _ = some ((Value.slice eb0 b.E.length eb1)) := H22_12.out.cell 2
  have k3 : _ = some (Value.int .i64 b.r) := H22_12.out.cell 3
  have k4 : _ = some (Value.func (.func 14) #[] #[.pointer (some ⟨c0 + 1 + 1 + 1 + 1, 0, none⟩), .pointer (some ⟨t19, 0, none⟩)]) := H22_12.out.cell 4
  have k5 : _ = some (Value.func (.func 15) #[] #[.pointer (some ⟨t18, 0, none⟩), .pointer (some ⟨c0 + 1 + 1 + 1 + 1, 0, none⟩)]) := H22_12.out.cell 5
  have k6 : _ = some (Value.int .i64 (-1)) := H22_12.out.cell 6
  have k7 : _ = some (Value.int .i64 256) := H22_12.out.cell 7
  have eB : frontL (atLo n low up) b.P = fronB b n := by rw [Hlow.out, HUp.out]; rfl
  have eA : frontL (atHi n high up) a.P = fronA a n := by rw [Hhigh.out, HUp.out]; rfl
  have hBn : (fronB b n).length ≤ 100 := by have := frontL_len (atLo n (loL n b.P) (upP n)) b.P; have := FB.p1; unfold fronB; omega
  have hAn : (fronA a n).length ≤ 100 := by have := frontL_len (atHi n (hiL n a.P) (upP n)) a.P; have := FA.p1; unfold fronA; omega
  have hBlt : ∀ k ∈ fronB b n, k < b.P.length := fun k hk => (frontL_lt hk).1
  have hAlt : ∀ k ∈ fronA a n, k < a.P.length := fun k hk => (frontL_lt hk).1
  have EA := Lib.hid eA
  have EB := Lib.hid eB
  have HBn := Lib.hid hBn
  have HAn := Lib.hid hAn
  have HBlt := Lib.hid hBlt
  have HAlt := Lib.hid hAlt
  have HfA := Lib.hid hfA
  have HfB := Lib.hid hfB
  clear eA eB hBlt hAlt hAn hBn hfA hfB
  go_wp2_with fail
  refine (front16_14 (Value.slice pb0 b.P.length pb1) (Value.slice ab0 b.A.length ab1) (Value.slice eb0 b.E.length eb1) _ b.r (-1) 256 b.P.length b.P n low up t19 (c0 + 1 + 1 + 1 + 1) w12 rfl (by have := FB.p1; omega) (HPB.out.new HB12.out) HN24.out FB.np ⟨by omega, by omega⟩ H19_12.out Hb4_12.out hlr).mono ?_
  rintro e w13 ⟨⟨lvB, rfl, hownB⟩, hT⟩
  rw [EB.out] at hownB
  have HOB_13 := Lib.hid (Rd.of_own hownB)
  have HB13 := Lib.hid (HB12.out.trans (hT.mono hs12))
  have hs13 := HB13.out.size
  have Hb0_13 := Lib.hid (Hb0_12.out.below hT Hb0_12.out.lt)
  have Hb1_13 := Lib.hid (Hb1_12.out.below hT Hb1_12.out.lt)
  have Hb3_13 := Lib.hid (Hb3_12.out.below hT Hb3_12.out.lt)
  have Hb4_13 := Lib.hid (Hb4_12.out.below hT Hb4_12.out.lt)
  have H18_13 := Lib.hid (H18_12.out.below hT H18_12.out.lt)
  have H19_13 := Lib.hid (H19_12.out.below hT H19_12.out.lt)
  have H21_13 := Lib.hid (H21_12.out.below hT H21_12.out.lt)
  have H22_13 := Lib.hid (H22_12.out.below hT H22_12.out.lt)
  clear hT hownB HB12 hs12 k0 k1 k2 k3 k4 k5 k6 k7
  clear Hb0_12 Hb1_12 Hb3_12 Hb4_12 H18_12 H19_12 H21_12 H22_12
  have k0 : _ = some ((Value.slice pa0 a.P.length pa1)) := H21_13.out.cell 0
  have k1 : _ = some ((Value.slice aa0 a.A.length aa1)) := H21_13.out.cell 1
  have k2 : _ = some ((Value.slice ea0 a.E.length ea1)) := H21_13.out.cell 2
  have k3 : _ = some (Value.int .i64 a.r) := H21_13.out.cell 3
  have k4 : _ = some (Value.func (.func 11) #[] #[.pointer (some ⟨t18, 0, none⟩), .pointer (some ⟨c0 + 1 + 1 + 1 + 1, 0, none⟩)]) := H21_13.out.cell 4
  have k5 : _ = some (Value.func (.func 13) #[] #[.pointer (some ⟨c0 + 1 + 1 + 1 + 1, 0, none⟩), .pointer (some ⟨t19, 0, none⟩)]) := H21_13.out.cell 5
  have k6 : _ = some (Value.int .i64 1) := H21_13.out.cell 6
  have k7 : _ = some (Value.int .i64 0) := H21_13.out.cell 7
  go_wp2_with fail
  refine (front16_11 (Value.slice pa0 a.P.length pa1) (Value.slice aa0 a.A.length aa1) (Value.slice ea0 a.E.length ea1) _ a.r 1 0 a.P.length a.P n high up t18 (c0 + 1 + 1 + 1 + 1) w13 rfl (by have := FA.p1; omega) (HPA.out.new HB13.out) HN24.out FA.np ⟨by omega, by omega⟩ H18_13.out Hb4_13.out hhr).mono ?_
  rintro e w14 ⟨⟨lvA, rfl, hownA⟩, hT⟩
  rw [EA.out] at hownA
  have HOne : Hid (∀ r, lvA.ownBlock = some r → r ≠ t22) := Lib.hid fun r hr => by have h1 := ownBlock_ge hownA hr; have h2 := H22_13.out.lt; omega
  have HOA_14 := Lib.hid (Rd.of_own hownA)
  have HOB_14 := Lib.hid (HOB_13.out.new hT)
  have HB14 := Lib.hid (HB13.out.trans (hT.mono hs13))
  have hs14 := HB14.out.size
  have Hb0_14 := Lib.hid (Hb0_13.out.below hT Hb0_13.out.lt)
  have Hb1_14 := Lib.hid (Hb1_13.out.below hT Hb1_13.out.lt)
  have Hb3_14 := Lib.hid (Hb3_13.out.below hT Hb3_13.out.lt)
  have Hb4_14 := Lib.hid (Hb4_13.out.below hT Hb4_13.out.lt)
  have H18_14 := Lib.hid (H18_13.out.below hT H18_13.out.lt)
  have H19_14 := Lib.hid (H19_13.out.below hT H19_13.out.lt)
  have H21_14 := Lib.hid (H21_13.out.below hT H21_13.out.lt)
  have H22_14 := Lib.hid (H22_13.out.below hT H22_13.out.lt)
  clear hT hownA HB13 hs13 HOB_13 k0 k1 k2 k3 k4 k5 k6 k7
  clear Hb0_13 Hb1_13 Hb3_13 Hb4_13 H18_13 H19_13 H21_13 H22_13
  go_upto_region 13 with (fail)
  obtain ⟨sA, hsA⟩ : ∃ v, v = spreadL ((fronA a n).map (ptAt a.P)) := ⟨_, rfl⟩
  obtain ⟨sB, hsB⟩ : ∃ v, v = spreadL ((fronB b n).map (ptAt b.P)) := ⟨_, rfl⟩
  have HsA := Lib.hid hsA
  have HsB := Lib.hid hsB
  clear hsA hsB
  have HXA : Hid (∀ u : After w14, Calls Try.prog 17 #[.agg #[(Value.slice pa0 a.P.length pa1), (Value.slice aa0 a.A.length aa1), (Value.slice ea0 a.E.length ea1), .int .i64 a.r, .func (.func 11) #[] #[.pointer (some ⟨t18, 0, none⟩), .pointer (some ⟨c0 + 1 + 1 + 1 + 1, 0, none⟩)], .func (.func 13) #[] #[.pointer (some ⟨c0 + 1 + 1 + 1 + 1, 0, none⟩), .pointer (some ⟨t19, 0, none⟩)], .int .i64 1, .int .i64 0], lvA] u.W fun e w' => e = .returned (.int .i64 sA) ∧ Below u.W.heap.size u.W w') := Lib.hid fun u => by
    rw [HsA.out]
    exact spread_call (Value.slice pa0 a.P.length pa1) (Value.slice aa0 a.A.length aa1) (Value.slice ea0 a.E.length ea1) _ _ a.r 1 0 a.P lvA (fronA a n) u.W (HPA.out.new (HB14.out.trans (u.h.mono hs14))) FA.np HAn.out (HOA_14.out.new u.h) HAlt.out HfA.out
  have HXB : Hid (∀ u : After w14, Calls Try.prog 17 #[.agg #[(Value.slice pb0 b.P.length pb1), (Value.slice ab0 b.A.length ab1), (Value.slice eb0 b.E.length eb1), .int .i64 b.r, .func (.func 14) #[] #[.pointer (some ⟨c0 + 1 + 1 + 1 + 1, 0, none⟩), .pointer (some ⟨t19, 0, none⟩)], .func (.func 15) #[] #[.pointer (some ⟨t18, 0, none⟩), .pointer (some ⟨c0 + 1 + 1 + 1 + 1, 0, none⟩)], .int .i64 (-1), .int .i64 256], lvB] u.W fun e w' => e = .returned (.int .i64 sB) ∧ Below u.W.heap.size u.W w') := Lib.hid fun u => by
    rw [HsB.out]
    exact spread_call (Value.slice pb0 b.P.length pb1) (Value.slice ab0 b.A.length ab1) (Value.slice eb0 b.E.length eb1) _ _ b.r (-1) 256 b.P lvB (fronB b n) u.W (HPB.out.new (HB14.out.trans (u.h.mono hs14))) FB.np HBn.out (HOB_14.out.new u.h) HBlt.out HfB.out
  have E0 : ∀ u : After w14, u.W.cell? ⟨t21, 0, none⟩ = some ((Value.slice pa0 a.P.length pa1)) := fun u => (H21_14.out.below u.h H21_14.out.lt).cell 0
  have E1 : ∀ u : After w14, u.W.cell? ⟨t21, 1, none⟩ = some ((Value.slice aa0 a.A.length aa1)) := fun u => (H21_14.out.below u.h H21_14.out.lt).cell 1
  have E2 : ∀ u : After w14, u.W.cell? ⟨t21, 2, none⟩ = some ((Value.slice ea0 a.E.length ea1)) := fun u => (H21_14.out.below u.h H21_14.out.lt).cell 2
  have E3 : ∀ u : After w14, u.W.cell? ⟨t21, 3, none⟩ = some (.int .i64 a.r) := fun u => (H21_14.out.below u.h H21_14.out.lt).cell 3
  have E4 : ∀ u : After w14, u.W.cell? ⟨t21, 4, none⟩ = some (.func (.func 11) #[] #[.pointer (some ⟨t18, 0, none⟩), .pointer (some ⟨c0 + 1 + 1 + 1 + 1, 0, none⟩)]) := fun u => (H21_14.out.below u.h H21_14.out.lt).cell 4
  have E5 : ∀ u : After w14, u.W.cell? ⟨t21, 5, none⟩ = some (.func (.func 13) #[] #[.pointer (some ⟨c0 + 1 + 1 + 1 + 1, 0, none⟩), .pointer (some ⟨t19, 0, none⟩)]) := fun u => (H21_14.out.below u.h H21_14.out.lt).cell 5
  have E6 : ∀ u : After w14, u.W.cell? ⟨t21, 6, none⟩ = some (.int .i64 1) := fun u => (H21_14.out.below u.h H21_14.out.lt).cell 6
  have E7 : ∀ u : After w14, u.W.cell? ⟨t21, 7, none⟩ = some (.int .i64 0) := fun u => (H21_14.out.below u.h H21_14.out.lt).cell 7
  have F0 : ∀ u : After w14, u.W.cell? ⟨t22, 0, none⟩ = some ((Value.slice pb0 b.P.length pb1)) := fun u => (H22_14.out.below u.h H22_14.out.lt).cell 0
  have F1 : ∀ u : After w14, u.W.cell? ⟨t22, 1, none⟩ = some ((Value.slice ab0 b.A.length ab1)) := fun u => (H22_14.out.below u.h H22_14.out.lt).cell 1
  have F2 : ∀ u : After w14, u.W.cell? ⟨t22, 2, none⟩ = some ((Value.slice eb0 b.E.length eb1)) := fun u => (H22_14.out.below u.h H22_14.out.lt).cell 2
  have F3 : ∀ u : After w14, u.W.cell? ⟨t22, 3, none⟩ = some (.int .i64 b.r) := fun u => (H22_14.out.below u.h H22_14.out.lt).cell 3
  have F4 : ∀ u : After w14, u.W.cell? ⟨t22, 4, none⟩ = some (.func (.func 14) #[] #[.pointer (some ⟨c0 + 1 + 1 + 1 + 1, 0, none⟩), .pointer (some ⟨t19, 0, none⟩)]) := fun u => (H22_14.out.below u.h H22_14.out.lt).cell 4
  have F5 : ∀ u : After w14, u.W.cell? ⟨t22, 5, none⟩ = some (.func (.func 15) #[] #[.pointer (some ⟨t18, 0, none⟩), .pointer (some ⟨c0 + 1 + 1 + 1 + 1, 0, none⟩)]) := fun u => (H22_14.out.below u.h H22_14.out.lt).cell 5
  have F6 : ∀ u : After w14, u.W.cell? ⟨t22, 6, none⟩ = some (.int .i64 (-1)) := fun u => (H22_14.out.below u.h H22_14.out.lt).cell 6
  have F7 : ∀ u : After w14, u.W.cell? ⟨t22, 7, none⟩ = some (.int .i64 256) := fun u => (H22_14.out.below u.h H22_14.out.lt).cell 7
  refine wp_region_after (by kernel_rfl) (by kernel_rfl) ?_
  repeat (go_big_quiet_step ((go_at_call 17; first | with_reducible exact calls_after _ (HXA.out _) | with_reducible exact calls_after _ (HXB.out _))))
  refine wpQuiet_nil ?_
  intro w15 hw15
  obtain ⟨u15, rfl⟩ := hw15
  clear E0 E1 E2 E3 E4 E5 E6 E7 F0 F1 F2 F3 F4 F5 F6 F7 HXA HXB
  obtain ⟨w15, hw15⟩ : ∃ v, v = u15.W := ⟨_, rfl⟩
  have hT : Below w14.heap.size w14 w15 := by rw [hw15]; exact u15.h
  rw [← hw15]
  clear hw15
  have HB15 := Lib.hid (HB14.out.trans (hT.mono hs14))
  have hs15 := HB15.out.size
  have HOA_15 := Lib.hid (HOA_14.out.new hT)
  have HOB_15 := Lib.hid (HOB_14.out.new hT)
  have Hb0_15 := Lib.hid (Hb0_14.out.below hT Hb0_14.out.lt)
  have Hb1_15 := Lib.hid (Hb1_14.out.below hT Hb1_14.out.lt)
  have Hb3_15 := Lib.hid (Hb3_14.out.below hT Hb3_14.out.lt)
  have Hb4_15 := Lib.hid (Hb4_14.out.below hT Hb4_14.out.lt)
  have H18_15 := Lib.hid (H18_14.out.below hT H18_14.out.lt)
  have H19_15 := Lib.hid (H19_14.out.below hT H19_14.out.lt)
  have H21_15 := Lib.hid (H21_14.out.below hT H21_14.out.lt)
  have H22_15 := Lib.hid (H22_14.out.below hT H22_14.out.lt)
  clear hT u15 HB14 hs14 HOA_14 HOB_14
  clear Hb0_14 Hb1_14 Hb3_14 Hb4_14 H18_14 H19_14 H21_14 H22_14
  have hlt : ¬ sA < sB := by rw [HsA.out, HsB.out]; first | exact Hlt.out | exact Int.not_lt.2 Hlt.out
  · have hsp : spotsP a b n within = ((fronB b n).map (mkB a b n)).filter (keepS within) := by unfold spotsP; rw [← HsA.out, ← HsB.out, if_neg hlt]
    have HSP := Lib.hid hsp
    rw [decide_eq_false hlt]
    obtain ⟨ia, ic, rfl, ii1, ii2⟩ := HOB_15.out.shape
    obtain ⟨bi, oi, rfl⟩ := HOB_15.out.addr (by intro h; exact HfB.out (List.length_eq_zero_iff.1 h))
    obtain ⟨bp, op, rfl⟩ := HPB.out.addr (by have := FB.p0; omega)
    have hnear : Hid (∀ k, Near 67108864 (mkB a b n k).p) := Lib.hid fun k => by
      have hx := Hax.out
      rw [HSm.out] at hx hp1
      have := mk_near (n := n) (k := k) (-1) (by simp) FB.np (shift_range hx.1 hp1 FB.r0) (shift_range hx.2.1 hp1 FB.r0) (shift_range hx.2.2 hp1 FB.r0) FB.r1
      simpa [mkB, Int.sub_eq_add_neg] using this
    have hLlt := HBlt.out
    have hLn := HBn.out
    clear hsp
    generalize fronB b n = L at *
    have HLlt := Lib.hid hLlt
    generalize hnT : L.length = nT at *
    have HnT := Lib.hid hnT
    clear hLlt hnT
    obtain ⟨w16, hw16⟩ : ∃ v, v = w15 := ⟨_, rfl⟩
    subst hw16
    have HB16 := HB15
    have hs16 := hs15
    have H22_16 := H22_15
    have HOB_16 := HOB_15
    have Hb0_16 := Hb0_15
    have Hb1_16 := Hb1_15
    have Hb3_16 := Hb3_15
    have Hb4_16 := Hb4_15
    have H18_16 := H18_15
    have H19_16 := H19_15
    clear HB15 hs15 HOA_15 HOB_15
    clear Hb0_15 Hb1_15 Hb3_15 Hb4_15 H18_15 H19_15 H21_15 H22_15
    have HP16 := Lib.hid (HPB.out.new HB16.out)
    have k0 : _ = some (Value.int .i64 n.x) := Hb4_16.out.cell 0
    have k1 : _ = some (Value.int .i64 n.y) := Hb4_16.out.cell 1
    have k2 : _ = some (Value.int .i64 n.z) := Hb4_16.out.cell 2
    go_upto_region 16 with (fail)
    clear k0 k1 k2
    change Code.wp _ _ _ _ (w16.alloc (.cells #[.int .i64 n.x, .int .i64 n.y, .int .i64 n.z, .slice none 0 0] 32))
    obtain ⟨w17, hw17⟩ : ∃ w17, w16.alloc (.cells #[.int .i64 n.x, .int .i64 n.y, .int .i64 n.z, .slice none 0 0] 32) = w17 := ⟨_, rfl⟩
    have hT : Below w16.heap.size w16 w17 := by rw [← hw17]; exact (Below.refl _ _).alloc (Nat.le_refl _) _
    have h25 : Blk w17 w16.heap.size 32 [.int .i64 n.x, .int .i64 n.y, .int .i64 n.z, .slice none 0 0] := by rw [← hw17]; exact Blk.newAt (w := w16) rfl 32 [.int .i64 n.x, .int .i64 n.y, .int .i64 n.z, .slice none 0 0]
    have hz17 : w17.heap.size = w16.heap.size + 1 := by rw [← hw17]; simp
    rw [hw17]
    clear hw17
    have HF : Hid (∀ W, Below w16.heap.size w17 W → Blk W c0 24 [(Value.slice pa0 a.P.length pa1), (Value.slice aa0 a.A.length aa1), (Value.slice ea0 a.E.length ea1), .int .i64 a.r] ∧ Blk W (c0 + 1) 24 [(Value.slice (some ⟨bp, op, none⟩) b.P.length pb1), (Value.slice ab0 b.A.length ab1), (Value.slice eb0 b.E.length eb1), .int .i64 b.r] ∧ Blk W (c0 + 1 + 1 + 1) 32 [.int .i64 0, .int .i64 0, .int .i64 0, .slice none 0 0] ∧ Blk W (c0 + 1 + 1 + 1 + 1) 26 n.cells ∧ Blk W t18 3 [.int .i64 high] ∧ Blk W t22 47 [(Value.slice (some ⟨bp, op, none⟩) b.P.length pb1), (Value.slice ab0 b.A.length ab1), (Value.slice eb0 b.E.length eb1), .int .i64 b.r, .func (.func 14) #[] #[.pointer (some ⟨c0 + 1 + 1 + 1 + 1, 0, none⟩), .pointer (some ⟨t19, 0, none⟩)], .func (.func 15) #[] #[.pointer (some ⟨t18, 0, none⟩), .pointer (some ⟨c0 + 1 + 1 + 1 + 1, 0, none⟩)], .int .i64 (-1), .int .i64 256] ∧ Rd W (Value.slice (some ⟨bi, oi, none⟩) nT ic) nT 1 (idxCells L) ∧ Rd W (Value.slice (some ⟨bp, op, none⟩) b.P.length pb1) b.P.length 3 (ptCells b.P) ∧ Below w.heap.size w W) := Lib.hid fun W hW => by
      have hW2 := hT.trans hW
      exact ⟨Hb0_16.out.below hW2 Hb0_16.out.lt, Hb1_16.out.below hW2 Hb1_16.out.lt, Hb3_16.out.below hW2 Hb3_16.out.lt, Hb4_16.out.below hW2 Hb4_16.out.lt, H18_16.out.below hW2 H18_16.out.lt, H22_16.out.below hW2 H22_16.out.lt, HOB_16.out.new hW2, HP16.out.new hW2, HB16.out.trans (hW2.mono hs16)⟩
    obtain ⟨t25, ht25e⟩ : ∃ v, v = w16.heap.size := ⟨_, rfl⟩
    rw [← ht25e] at h25 HF hz17 hs16 ⊢
    have l22 : t22 < t25 := by rw [ht25e]; exact H22_16.out.lt
    have l25 : t25 ≤ w17.heap.size := by omega
    have l0 : c0 < t25 ∧ c0 + 1 + 1 + 1 + 1 < t25 := by rw [ht25e]; exact ⟨Hb0_16.out.lt, Hb4_16.out.lt⟩
    obtain ⟨l0, l4⟩ := l0
    have h17 : t25 < w17.heap.size := by omega
    have hc3 : w.heap.size ≤ c0 + 1 + 1 + 1 := by have := Hc0.out; omega
    clear ht25e hT hz17 HP16 HB16 HOB_16
    clear Hb0_16 Hb1_16 Hb3_16 Hb4_16 H18_16 H19_16 H22_16
    obtain ⟨-, -, -, -, -, f22, -⟩ := HF.out w17 (Below.refl _ _)
    have k3 : _ = some (Value.int .i64 b.r) := f22.cell 3
    have Hzero : ∀ W : World, (W.ownsRow (t25 + 1) 40 5 (.slice none 0 0) (((L.take 0).map (mkB a b n)).filter (keepS within)).length (spCells (((L.take 0).map (mkB a b n)).filter (keepS within)))) := fun W => World.ownsRow_nil _ _ _ _
    have Hzero := Lib.hid Hzero
    clear f22
    go_upto_block 18 with (fail)
    clear k3
    go_loopg [28, 29, 30, 31, 144] nT (fun g _ _ _ _ i wx => ∃ (k : Nat) (sv : Value), g = nT - k ∧ k ≤ nT ∧ i = .int .i64 (k : Int) ∧ Blk wx t25 32 [.int .i64 n.x, .int .i64 n.y, .int .i64 n.z, sv] ∧ wx.ownsRow (t25 + 1) 40 5 sv (((L.take k).map (mkB a b n)).filter (keepS within)).length (spCells (((L.take k).map (mkB a b n)).filter (keepS within))) ∧ Below t25 w17 wx)
    case atStart => exact ⟨0, _, rfl, Nat.zero_le _, rfl, h25, Hzero.out _, Below.refl _ _⟩
    case round =>
      clear h25
      obtain ⟨k, sv, hg, hk, rfl, h25, hown, hB⟩ := hrel
      have Hg := Lib.hid hg
      have HH := HF.out wr hB
      obtain ⟨ao, cap, rfl, -, -, -⟩ := own_clip hown
      have HB := Lib.hid hB
      have hsr := hB.size
      clear hg hB
      by_cases hkn : k < nT
      · obtain ⟨x, hx⟩ : ∃ x, L[k]? = some x := ⟨_, List.getElem?_eq_getElem (by rw [HnT.out]; exact hkn)⟩
        have hxn := HLlt.out x (List.mem_of_getElem? hx)
        obtain ⟨g0, g1, g3, g4, gh, g22, gi, gp, gB⟩ := HH
        have q0 := gi.idx hkn hx
        obtain ⟨p0, p1, p2⟩ := gp.pt hxn (ptAt_get hxn)
        have hpn := ptAt_near FB.np (by decide) x
        have hsn := spots_snoc (mk := mkB a b n) (within := within) hx
        have hsl := spots_len L (mkB a b n) within k
        rw [HnT.out] at hsl
        have e22 : _ = some (Value.slice (some ⟨bp, op, none⟩) b.P.length pb1) := g22.cell 0
        obtain ⟨s, hs⟩ : ∃ s, s = mkB a b n x := ⟨_, rfl⟩
        rw [← hs] at hsn
        have hs' := hs
        unfold mkB at hs'
        have hsx : s.p.x = (ptAt b.P x).x - (n.x * b.r).tdiv sm := by rw [hs', HSm.out]
        have hsy : s.p.y = (ptAt b.P x).y - (n.y * b.r).tdiv sm := by rw [hs', HSm.out]
        have hsz : s.p.z = (ptAt b.P x).z - (n.z * b.r).tdiv sm := by rw [hs', HSm.out]
        obtain ⟨p, hp⟩ : ∃ p, p = ptAt b.P x := ⟨_, rfl⟩
        rw [← hp] at p0 p1 p2 hpn hsx hsy hsz
        obtain ⟨D, hD⟩ : ∃ D, D = high - dotP n p := ⟨_, rfl⟩
        have hsd : s.d = downP D sm + a.r + b.r := by rw [hs', hD, hp, HSm.out, Hhigh.out]
        have hsi : s.id = 256 + (x : Int) := by rw [hs']
        have hDr : -1688849860263936 ≤ D ∧ D ≤ 1688849860263936 := by have := dot24 HN24.out hpn; rw [hD]; omega
        have hQr := down_range hDr hp1
        obtain ⟨Q, hQ⟩ : ∃ Q, Q = downP D sm := ⟨_, rfl⟩
        rw [← hQ] at hsd hQr
        have HD := Lib.hid hD
        have HQ := Lib.hid hQ
        have Hsn := Lib.hid hsn
        have Hown := Lib.hid hown
        have H25 := Lib.hid h25
        have G0 := Lib.hid g0
        have G1 := Lib.hid g1
        have G4 := Lib.hid g4
        have Gh := Lib.hid gh
        have G22 := Lib.hid g22
        have HDr := Lib.hid hDr
        have Hpn := Lib.hid hpn
        have Hsx := Lib.hid hsx
        have Hsy := Lib.hid hsy
        have Hsz := Lib.hid hsz
        have Hsd := Lib.hid hsd
        have Hsi := Lib.hid hsi
        have hkI : (k : Int) < (nT : Int) := by omega
        have hxI : (x : Int) < (b.P.length : Int) := by omega
        have hxI0 : (0 : Int) ≤ (x : Int) := by omega
        clear hx hs hs' hsx hsy hsz hp hD hQ hsd hsi hsn hown h25 g0 g1 g3 g4 gh g22 gi gp gB hDr hpn
        go_upto_region 21 with (fail)
        clear q0 p0 p1 p2 e22
        change Code.wp _ _ _ _ (wr.alloc (.cells #[.int .i64 p.x, .int .i64 p.y, .int .i64 p.z] 26))
        obtain ⟨w20, hw20⟩ : ∃ w20, wr.alloc (.cells #[.int .i64 p.x, .int .i64 p.y, .int .i64 p.z] 26) = w20 := ⟨_, rfl⟩
        have hT : Below wr.heap.size wr w20 := by rw [← hw20]; exact (Below.refl _ _).alloc (Nat.le_refl _) _
        have h29 : Blk w20 wr.heap.size 26 p.cells := by rw [← hw20]; exact Blk.newAt (w := wr) rfl 26 p.cells
        rw [hw20]
        clear hw20
        obtain ⟨t29, ht29e⟩ : ∃ v, v = wr.heap.size := ⟨_, rfl⟩
        rw [← ht29e] at h29 ⊢
        clear ht29e
        have HB20 := Lib.hid (HB.out.trans (hT.mono (Nat.le_trans l25 hsr)))
        have E0 : ∀ u : After w20, u.W.cell? ⟨t22, 5, none⟩ = some (Value.func (.func 15) #[] #[.pointer (some ⟨t18, 0, none⟩), .pointer (some ⟨c0 + 1 + 1 + 1 + 1, 0, none⟩)]) := fun u => (G22.out.below (hT.trans (u.h.mono hT.size)) G22.out.lt).cell 5
        have E1 : ∀ u : After w20, u.W.cell? ⟨c0, 3, none⟩ = some (.int .i64 a.r) := fun u => (G0.out.below (hT.trans (u.h.mono hT.size)) G0.out.lt).cell 3
        have E2 : ∀ u : After w20, u.W.cell? ⟨c0 + 1, 3, none⟩ = some (.int .i64 b.r) := fun u => (G1.out.below (hT.trans (u.h.mono hT.size)) G1.out.lt).cell 3
        have E3 : ∀ u : After w20, u.W.cell? ⟨t29, 0, none⟩ = some (.int .i64 p.x) := fun u => (h29.below u.h h29.lt).cell 0
        have E4 : ∀ u : After w20, u.W.cell? ⟨t29, 1, none⟩ = some (.int .i64 p.y) := fun u => (h29.below u.h h29.lt).cell 1
        have E5 : ∀ u : After w20, u.W.cell? ⟨t29, 2, none⟩ = some (.int .i64 p.z) := fun u => (h29.below u.h h29.lt).cell 2
        have HX1 : Hid (∀ u : After w20, Calls Try.prog 15 #[ptV p, .pointer (some ⟨t18, 0, none⟩), .pointer (some ⟨c0 + 1 + 1 + 1 + 1, 0, none⟩)] u.W fun e w' => e = .returned (.int .i64 D) ∧ Below u.W.heap.size u.W w') := Lib.hid fun u => by
          have h := touch15_any p n high t18 (c0 + 1 + 1 + 1 + 1) u.W (Gh.out.below (hT.trans (u.h.mono hT.size)) Gh.out.lt) (G4.out.below (hT.trans (u.h.mono hT.size)) G4.out.lt) Hpn.out HN24.out hhr
          rw [HD.out]
          exact h
        have HX2 : Hid (∀ W, Calls Try.prog 18 #[.int .i64 D, .int .i64 sm] W fun e w' => e = .returned (.int .i64 Q) ∧ Below W.heap.size W w') := Lib.hid fun W => by
          rw [HQ.out]
          refine (down18_any D sm W (by have := HDr.out; omega) ⟨hp1, by omega⟩).mono ?_
          rintro e w' ⟨rfl, rfl⟩
          exact ⟨rfl, Below.refl _ _⟩
        have hra := FA.r0
        have hra1 := FA.r1
        have hrb := FB.r0
        have hrb1 := FB.r1
        have e1 := IntWalk.i64_in (Q + a.r) (by omega)
        have e2 := IntWalk.i64_in (Q + a.r + b.r) (by omega)
        refine wp_region_after (by kernel_rfl) (by kernel_rfl) ?_
        repeat (go_big_quiet_step (first | (go_at_call 15; exact calls_after _ (HX1.out _)) | (go_at_call 18; exact calls_after _ (HX2.out _))))
        refine wpQuiet_nil ?_
        intro w21 hw21
        obtain ⟨u21, rfl⟩ := hw21
        clear E0 E1 E2 E3 E4 E5 HX1 HX2 e1 e2
        rw [← Hsd.out]
        obtain ⟨w21, hw21⟩ : ∃ v, v = u21.W := ⟨_, rfl⟩
        have hT2 : Below w20.heap.size w20 w21 := by rw [hw21]; exact u21.h
        rw [← hw21]
        clear hw21
        have hT3 := hT.trans (hT2.mono hT.size)
        have HB21 := Lib.hid (HB20.out.trans (hT2.mono (Nat.le_trans l25 HB20.out.size)))
        have hs21 := HB21.out.size
        have H29 := Lib.hid (h29.below hT2 h29.lt)
        have H25b := Lib.hid (H25.out.below hT3 H25.out.lt)
        have Hown2 := Lib.hid (own_new Hown.out hT3)
        have l29 := H29.out.lt
        have hsdr : -1099511627776 - 4611686018427387904 ≤ s.d ∧ s.d ≤ 4611686018427387904 := by rw [Hsd.out]; omega
        clear hT hT2 hT3 h29 u21 HB HB20 hQr HDr H25 Hown G0 G1 G4 Gh G22
        by_cases hd : s.d < -within
        · have hk0 : keepS within s = false := decide_eq_false (by omega)
          have hsn := Hsn.out
          rw [hk0, if_neg (by simp), List.append_nil] at hsn
          have Hsn2 := Lib.hid hsn
          clear hsn hk0
          go_wp2
          go_roundg (nT - (k + 1))
          case rel => exact ⟨k + 1, _, rfl, by omega, by go_num, H25b.out, by rw [Hsn2.out]; exact Hown2.out, HB21.out⟩
          case measure => have := Hg.out; omega
        · have hk0 : keepS within s = true := decide_eq_true (by omega)
          have hsn := Hsn.out
          rw [hk0, if_pos rfl] at hsn
          have Hsn2 := Lib.hid hsn
          clear hsn hk0
          obtain ⟨g0, g1, g3, g4, gh, g22, gi, gp, gB⟩ := HF.out w21 HB21.out
          have HP4 : Hid (∀ W, Below w21.heap.size w21 W → (fun W : World => W.cell? ⟨t29, 0, none⟩ = some (.int .i64 p.x) ∧ W.cell? ⟨t29, 1, none⟩ = some (.int .i64 p.y) ∧ W.cell? ⟨t29, 2, none⟩ = some (.int .i64 p.z) ∧ W.cell? ⟨c0 + 1 + 1 + 1 + 1, 0, none⟩ = some (.int .i64 n.x) ∧ W.cell? ⟨c0 + 1 + 1 + 1 + 1, 1, none⟩ = some (.int .i64 n.y) ∧ W.cell? ⟨c0 + 1 + 1 + 1 + 1, 2, none⟩ = some (.int .i64 n.z) ∧ W.cell? ⟨t22, 6, none⟩ = some (.int .i64 (-1))) W) := Lib.hid fun W hW => by
            have h29 := H29.out.below hW H29.out.lt
            have h4 := g4.below hW g4.lt
            have h22 := g22.below hW g22.lt
            exact ⟨h29.cell 0, h29.cell 1, h29.cell 2, h4.cell 0, h4.cell 1, h4.cell 2, h22.cell 6⟩
          have G22 := Lib.hid g22
          have hra := FB.r0
          have hra1 := FB.r1
          have hpx := prod_range hn20.1 ⟨hra, hra1⟩
          have hpy := prod_range hn20.2.1 ⟨hra, hra1⟩
          have hpz := prod_range hn20.2.2 ⟨hra, hra1⟩
          have htx := shift_range Hax.out.1 hp1 hra
          have hty := shift_range Hax.out.2.1 hp1 hra
          have htz := shift_range Hax.out.2.2 hp1 hra
          have hpn := Hpn.out
          unfold Near at hpn
          have e1 := IntWalk.i64_in (n.x * b.r) (by omega)
          have e2 := IntWalk.i64_in (n.y * b.r) (by omega)
          have e3 := IntWalk.i64_in (n.z * b.r) (by omega)
          have e4 := IntWalk.i64_in ((n.x * b.r).tdiv sm) (by omega)
          have e5 := IntWalk.i64_in ((n.y * b.r).tdiv sm) (by omega)
          have e6 := IntWalk.i64_in ((n.z * b.r).tdiv sm) (by omega)
          have m4 := IntWalk.i64_in (-((n.x * b.r).tdiv sm)) (by omega)
          have m5 := IntWalk.i64_in (-((n.y * b.r).tdiv sm)) (by omega)
          have m6 := IntWalk.i64_in (-((n.z * b.r).tdiv sm)) (by omega)
          have e7 := IntWalk.i64_in s.p.x (by rw [Hsx.out]; omega)
          have e8 := IntWalk.i64_in s.p.y (by rw [Hsy.out]; omega)
          have e9 := IntWalk.i64_in s.p.z (by rw [Hsz.out]; omega)
          rw [Hsx.out] at e7
          rw [Hsy.out] at e8
          rw [Hsz.out] at e9
          rw [Int.sub_eq_add_neg] at e7 e8 e9
          clear g0 g1 g3 g4 gh g22 gi gp gB hpx hpy hpz htx hty htz hpn
          have n4 : c0 + 1 + 1 + 1 + 1 < w21.heap.size := by omega
          have n22 : t22 < w21.heap.size := by omega
          go_upto_region 23 with (fail)
          go_cut [31] (fun v wx => ∃ b31, v = .pointer (some ⟨b31, 0, none⟩) ∧ Blk wx b31 26 s.p.cells ∧ Below w21.heap.size w21 wx)
          case first =>
            go_region_held3 (fun W : World => W.cell? ⟨t29, 0, none⟩ = some (.int .i64 p.x) ∧ W.cell? ⟨t29, 1, none⟩ = some (.int .i64 p.y) ∧ W.cell? ⟨t29, 2, none⟩ = some (.int .i64 p.z) ∧ W.cell? ⟨c0 + 1 + 1 + 1 + 1, 0, none⟩ = some (.int .i64 n.x) ∧ W.cell? ⟨c0 + 1 + 1 + 1 + 1, 1, none⟩ = some (.int .i64 n.y) ∧ W.cell? ⟨c0 + 1 + 1 + 1 + 1, 2, none⟩ = some (.int .i64 n.z) ∧ W.cell? ⟨t22, 6, none⟩ = some (.int .i64 (-1)))
              (first
                | exact HP4.out _ (Below.refl w21.heap.size w21).drew
                | exact HP4.out _ ((Below.refl w21.heap.size w21).alloc (Nat.le_refl _) _).drew
                | exact HP4.out _ ((Below.refl w21.heap.size w21).drew.alloc (Nat.le_refl _) _)
                | exact HP4.out _ (((((Below.refl w21.heap.size w21).alloc (Nat.le_refl _) _).drew.setCell (p := ⟨w21.heap.size, 0, none⟩) (Nat.le_refl _) _).setCell (p := ⟨w21.heap.size, 1, none⟩) (Nat.le_refl _) _).setCell (p := ⟨w21.heap.size, 2, none⟩) (Nat.le_refl _) _))
              (fail)
            all_goals (first | go_wp2 | skip)
            all_goals go_meet
            exact ⟨_, rfl, ((Blk.new w21 26 _).drew).cast (by simp only [Pt.cells, Hsx.out, Hsy.out, Hsz.out, Int.sub_eq_add_neg]), ((Below.refl w21.heap.size w21).alloc (Nat.le_refl _) _).drew⟩
          case rest =>
            obtain ⟨b31, rfl, hb31, hB31⟩ := hcut
            have h25c := H25b.out.below hB31 H25b.out.lt
            have hownc := own_new Hown2.out hB31
            have g22 := G22.out.below hB31 G22.out.lt
            have HBc := Lib.hid (HB21.out.trans (hB31.mono (Nat.le_trans l25 hs21)))
            have hsc := hB31.size
            have m0 : _ = some (Value.int .i64 s.p.x) := hb31.cell 0
            have m1 : _ = some (Value.int .i64 s.p.y) := hb31.cell 1
            have m2 : _ = some (Value.int .i64 s.p.z) := hb31.cell 2
            have m7 : _ = some (Value.int .i64 256) := g22.cell 7
            obtain ⟨T, hT⟩ : ∃ T, T = (((L.take k).map (mkB a b n)).filter (keepS within)).length := ⟨_, rfl⟩
            rw [← hT] at hownc h25c hsl
            have c3 : _ = some (Value.slice ao T cap) := h25c.cell 3
            have HT := Lib.hid hT
            have Hne2 : Hid (∀ r, (Value.slice ao T cap).ownBlock = some r → r ≠ t25) := Lib.hid fun r hr => by have := ownBlock_ge hownc hr; omega
            have hid8 := IntWalk.i64_in (256 + (x : Int)) (by have := FB.p1; omega)
            have hx100 : (x : Int) ≤ 100 := by have := FB.p1; omega
            have hid0 := IntWalk.i64_in (x : Int) (by omega)
            have hT100 : T ≤ 100 := by omega
            obtain ⟨i0, hi, hz0, hz1, hz2⟩ := info_parts info40
            clear hT hb31 g22 e1 e2 e3 e4 e5 e6 e7 e8 e9 m4 m5 m6 HP4 hB31
            go_wp2_with (at_builtin; refine wpList_append_own _ rfl _ _ 30 rfl (t25 + 1) 40 i0 (.agg #[.int .i64 0, .int .i64 0, .int .i64 0, .int .i64 0, .int .i64 0]) 5 40 Try.underlying30 hi hz0 hz1 hz2 rfl (by decide) _ _ _ rfl (hownc.alloc _) ⟨wc.heap.size, 0, none⟩ 1 1 [.int .i64 s.p.x, .int .i64 s.p.y, .int .i64 s.p.z, .int .i64 s.d, .int .i64 (256 + (x : Int))] rfl rfl (World.news_of_block (cs := List.toArray [.int .i64 s.p.x, .int .i64 s.p.y, .int .i64 s.p.z, .int .i64 s.d, .int .i64 (256 + (x : Int))]) (t := 40) (fr := (0, 0)) (heap_alloc_new wc _)) (by simp [Value.oneCell']) (by unfold maxLen; omega) (by omega) (by simp; omega) ?_; intro v' w7 hown' hgrow _
                         obtain ⟨ao7, cap7, rfl, -, -, -⟩ := own_clip hown'
                         have hb7 := (h25c.alloc (.cells (List.toArray [.int .i64 s.p.x, .int .i64 s.p.y, .int .i64 s.p.z, .int .i64 s.d, .int .i64 (256 + (x : Int))]) 40)).grown hgrow (fun e => Hne2.out t25 e rfl)
                         have c7 : _ = some (Value.slice ao T cap) := hb7.cell 3
                         have f7 := hb7.frozen 3)
            have hB7 : Below t25 w17 w7 := (HBc.out.alloc (Nat.le_trans l25 HBc.out.size) (.cells (List.toArray [.int .i64 s.p.x, .int .i64 s.p.y, .int .i64 s.p.z, .int .i64 s.d, .int .i64 (256 + (x : Int))]) 40)).grown hgrow (by simp; omega) (fun r hr => by have := ownBlock_ge hownc hr; omega)
            have hown8 : w7.ownsRow (t25 + 1) 40 5 (.slice ao7 (T + 1) cap7) (((L.take (k + 1)).map (mkB a b n)).filter (keepS within)).length (spCells (((L.take (k + 1)).map (mkB a b n)).filter (keepS within))) := by
              rw [Hsn2.out, List.length_append, List.length_singleton, ← HT.out, spCells_snoc]
              have e : s.cells = [.int .i64 s.p.x, .int .i64 s.p.y, .int .i64 s.p.z, .int .i64 s.d, .int .i64 (256 + (x : Int))] := by simp only [Sp.cells, Hsi.out]
              rw [e]
              exact hown'
            have hown9 := own_keep hown8 (fun r cur hr hh => Below.heap_setCell w7 ⟨t25, 3, none⟩ (.slice ao7 (T + 1) cap7) r (blk_ne_cells hb7 hh (by decide)))
            have hb9 := hb7.set 3 (.slice ao7 (T + 1) cap7)
            have hB9 := hB7.setCell (p := ⟨t25, 3, none⟩) (Nat.le_refl _) (.slice ao7 (T + 1) cap7)
            clear hown' hgrow hown8 hb7 c7 f7
            go_roundg (nT - (k + 1))
            case rel => exact ⟨k + 1, _, rfl, by omega, by go_num, hb9, hown9, hB9⟩
            case measure => have := Hg.out; omega
      · obtain rfl : k = nT := by omega
        have hall : ((L.take k).map (mkB a b n)).filter (keepS within) = spotsP a b n within := by rw [← HnT.out, List.take_length, HSP.out]
        rw [hall] at hown h25
        have hsn : ∀ s ∈ spotsP a b n within, Near 67108864 s.p := by
          intro s hs
          rw [← hall] at hs
          obtain ⟨hs1, -⟩ := List.mem_filter.1 hs
          obtain ⟨j, -, rfl⟩ := List.mem_map.1 hs1
          exact hnear.out j
        obtain ⟨g0, g1, g3, g4, gh, g22, gi, gp, gB⟩ := HH
        obtain ⟨T, hT⟩ : ∃ T, T = (spotsP a b n within).length := ⟨_, rfl⟩
        rw [← hT] at hown h25
        have HT := Lib.hid hT
        have Hsn := Lib.hid hsn
        have G3 := Lib.hid g3
        have GB := Lib.hid gB
        have c3 : _ = some (Value.slice ao T cap) := h25.cell 3
        have l03 := g3.lt
        have ne3 : c0 + 1 + 1 + 1 ≠ t25 := by omega
        have H25 := Lib.hid h25
        have Hown := Lib.hid hown
        have hge : Hid (∀ r, (Value.slice ao T cap).ownBlock = some r → t25 + 1 ≤ r) := Lib.hid fun r hr => ownBlock_ge hown hr
        clear hall hsn hT g0 g1 g3 g4 gh g22 gi gp gB hown h25
        by_cases hT0 : T = 0
        · subst hT0
          have z0 : _ = some (Value.int .i64 0) := G3.out.cell 0
          have z1 : _ = some (Value.int .i64 0) := G3.out.cell 1
          have z2 : _ = some (Value.int .i64 0) := G3.out.cell 2
          have z3 : _ = some (Value.slice none 0 0) := G3.out.cell 3
          have f0 := G3.out.frozen 0
          have f1 := G3.out.frozen 1
          have f2 := G3.out.frozen 2
          have f3 := G3.out.frozen 3
          have Hfin := Lib.hid ((((G3.out.set 0 (.int .i64 0)).set 1 (.int .i64 0)).set 2 (.int .i64 0)).set 3 (.slice none 0 0))
          have HBf := Lib.hid ((((GB.out.setCell (p := ⟨c0 + 1 + 1 + 1, 0, none⟩) hc3 (.int .i64 0)).setCell (p := ⟨c0 + 1 + 1 + 1, 1, none⟩) hc3 (.int .i64 0)).setCell (p := ⟨c0 + 1 + 1 + 1, 2, none⟩) hc3 (.int .i64 0)).setCell (p := ⟨c0 + 1 + 1 + 1, 3, none⟩) hc3 (.slice none 0 0))
          go_wp2
          obtain ⟨w9, hw9⟩ : ∃ w9, ((((wr.setCell ⟨c0 + 1 + 1 + 1, 0, none⟩ (.int .i64 0)).setCell ⟨c0 + 1 + 1 + 1, 1, none⟩ (.int .i64 0)).setCell ⟨c0 + 1 + 1 + 1, 2, none⟩ (.int .i64 0)).setCell ⟨c0 + 1 + 1 + 1, 3, none⟩ (.slice none 0 0)) = w9 := ⟨_, rfl⟩
          rw [hw9] at Hfin HBf ⊢
          have r0 : _ = some (Value.int .i64 0) := Hfin.out.cell 0
          have r1 : _ = some (Value.int .i64 0) := Hfin.out.cell 1
          have r2 : _ = some (Value.int .i64 0) := Hfin.out.cell 2
          have r3 : _ = some (Value.slice none 0 0) := Hfin.out.cell 3
          exact bodyPost_ret (v := .tuple #[patV ⟨0, 0, 0⟩ (.slice none 0 0), .bool false]) (by simp [results, Try.f5, go_sem, r0, r1, r2, r3]) rfl ⟨.inl ⟨List.length_eq_zero_iff.1 HT.out.symm, rfl⟩, HBf.out⟩
        · have hTI : ((T : Int) == 0) = false := by
            have : ¬ (T : Int) = 0 := by omega
            simpa using this
          have hTI2 : ¬ (T : Int) = 0 := by omega
          go_wp2_with fail
          refine (four19_any (.slice ao T cap) T (spotsP a b n within) wr HT.out.symm (Rd.of_own Hown.out) Hsn.out).mono ?_
          rintro e w8 ⟨⟨v, rr, rfl, hF4, hR, hblk⟩, hB8⟩
          obtain ⟨av, cv, rfl, cv1, cv2⟩ := hR.shape
          have h25 := H25.out.below hB8 H25.out.lt
          have h3 := G3.out.below hB8 G3.out.lt
          have x0 : _ = some (Value.int .i64 n.x) := h25.cell 0
          have x1 : _ = some (Value.int .i64 n.y) := h25.cell 1
          have x2 : _ = some (Value.int .i64 n.z) := h25.cell 2
          have x3 : _ = some (Value.slice ao T cap) := h25.cell 3
          have y3 := h25.frozen 3
          have z0 : _ = some (Value.int .i64 0) := h3.cell 0
          have z1 : _ = some (Value.int .i64 0) := h3.cell 1
          have z2 : _ = some (Value.int .i64 0) := h3.cell 2
          have z3 : _ = some (Value.slice none 0 0) := h3.cell 3
          have f0 := h3.frozen 0
          have f1 := h3.frozen 1
          have f2 := h3.frozen 2
          have f3 := h3.frozen 3
          have gs := GB.out.size
          have HBf := Lib.hid (((((GB.out.trans (hB8.mono gs)).setCell (p := ⟨t25, 3, none⟩) hs16 (.slice av rr.length cv)).setCell (p := ⟨c0 + 1 + 1 + 1, 0, none⟩) hc3 (.int .i64 n.x)).setCell (p := ⟨c0 + 1 + 1 + 1, 1, none⟩) hc3 (.int .i64 n.y)).setCell (p := ⟨c0 + 1 + 1 + 1, 2, none⟩) hc3 (.int .i64 n.z) |>.setCell (p := ⟨c0 + 1 + 1 + 1, 3, none⟩) hc3 (.slice av rr.length cv))
          have Hfin := Lib.hid (((((h3.setCell_ne (p := ⟨t25, 3, none⟩) ne3 (.slice av rr.length cv)).set 0 (.int .i64 n.x)).set 1 (.int .i64 n.y)).set 2 (.int .i64 n.z)).set 3 (.slice av rr.length cv))
          have HR : Hid (Rd (((((w8.setCell ⟨t25, 3, none⟩ (.slice av rr.length cv)).setCell ⟨c0 + 1 + 1 + 1, 0, none⟩ (.int .i64 n.x)).setCell ⟨c0 + 1 + 1 + 1, 1, none⟩ (.int .i64 n.y)).setCell ⟨c0 + 1 + 1 + 1, 2, none⟩ (.int .i64 n.z)).setCell ⟨c0 + 1 + 1 + 1, 3, none⟩ (.slice av rr.length cv)) (.slice av rr.length cv) rr.length 5 (spCells rr)) := Lib.hid (by
            refine hR.same (by simp) fun B hB hlB => ?_
            have hBt : t25 < B ∧ B ≠ c0 + 1 + 1 + 1 := by
              rcases hblk B hB with h | h
              · have := hge.out B h; omega
              · have := H25.out.lt; omega
            rw [Below.heap_setCell _ _ _ B hBt.2, Below.heap_setCell _ _ _ B hBt.2, Below.heap_setCell _ _ _ B hBt.2, Below.heap_setCell _ _ _ B hBt.2, Below.heap_setCell _ _ _ B (Nat.ne_of_gt hBt.1)])
          have HF4 := Lib.hid hF4
          clear hF4 hR hblk hB8 h25 h3 c3
          go_wp2
          obtain ⟨w9, hw9⟩ : ∃ w9, (((((w8.setCell ⟨t25, 3, none⟩ (.slice av rr.length cv)).setCell ⟨c0 + 1 + 1 + 1, 0, none⟩ (.int .i64 n.x)).setCell ⟨c0 + 1 + 1 + 1, 1, none⟩ (.int .i64 n.y)).setCell ⟨c0 + 1 + 1 + 1, 2, none⟩ (.int .i64 n.z)).setCell ⟨c0 + 1 + 1 + 1, 3, none⟩ (.slice av rr.length cv)) = w9 := ⟨_, rfl⟩
          rw [hw9] at Hfin HBf HR ⊢
          have r0 : _ = some (Value.int .i64 n.x) := Hfin.out.cell 0
          have r1 : _ = some (Value.int .i64 n.y) := Hfin.out.cell 1
          have r2 : _ = some (Value.int .i64 n.z) := Hfin.out.cell 2
          have r3 : _ = some (Value.slice av rr.length cv) := Hfin.out.cell 3
          exact bodyPost_ret (v := .tuple #[patV n (.slice av rr.length cv), .bool true]) (by simp [results, Try.f5, go_sem, r0, r1, r2, r3]) rfl ⟨.inr ⟨fun h => hT0 (by rw [HT.out, h]; rfl), _, rr, HF4.out, HR.out, rfl⟩, HBf.out⟩
end Go.Proofs.Ytpbpdgknjbjlcaa
