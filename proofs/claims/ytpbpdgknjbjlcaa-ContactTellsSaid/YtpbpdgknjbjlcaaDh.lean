/- Contacts: the reference's Touch where it goes on and the owner is the first. -/
import Derived.Test.YtpbpdgknjbjlcaaDl
import Derived.Laws.EntriesVeiled
import Derived.BigRegion
namespace Go.Proofs.Ytpbpdgknjbjlcaa
open Go.RowKit
set_option maxRecDepth 100000 in
set_option maxHeartbeats 4000000 in
theorem touch6_A (pva ava eva pvb avb evb : Value) (a b : Cor) (n : Pt) (gap within : Int) (w : World) (pa : Rd w pva a.P.length 3 (ptCells a.P)) (aa : Rd w ava a.A.length 3 (ptCells a.A)) (ea : Rd w eva a.E.length 3 (ptCells a.E)) (pb : Rd w pvb b.P.length 3 (ptCells b.P)) (ab : Rd w avb b.A.length 3 (ptCells b.A)) (eb : Rd w evb b.E.length 3 (ptCells b.E)) (hw : -1099511627776 < within ∧ within < 1099511627776) (hgo : goB a b n gap within = true) (hlt0 : spreadL ((fronA a n).map (ptAt a.P)) < spreadL ((fronB b n).map (ptAt b.P))) :
    Calls Try.prog 6 #[corV pva ava eva a.r, corV pvb avb evb b.r, apV n gap, .int .i64 within] w fun e w' => ((spotsP a b n within = [] ∧ e = .returned (.tuple #[patV ⟨0, 0, 0⟩ (.slice none 0 0), .bool false])) ∨ (spotsP a b n within ≠ [] ∧ ∃ v r, IsFour (spotsP a b n within) r ∧ Rd w' v r.length 5 (spCells r) ∧ e = .returned (.tuple #[patV n v, .bool true]))) ∧ Below w.heap.size w w' := by
  obtain ⟨pa0, pa1, rfl, ca1, ca2⟩ := pa.shape
  obtain ⟨aa0, aa1, rfl, ca3, ca4⟩ := aa.shape
  obtain ⟨ea0, ea1, rfl, ca5, ca6⟩ := ea.shape
  obtain ⟨pb0, pb1, rfl, cb1, cb2⟩ := pb.shape
  obtain ⟨ab0, ab1, rfl, cb3, cb4⟩ := ab.shape
  obtain ⟨eb0, eb1, rfl, cb5, cb6⟩ := eb.shape
  clear ca1 ca2 ca3 ca4 ca5 ca6 cb1 cb2 cb3 cb4 cb5 cb6
  have Hlt := Lib.hid hlt0
  clear hlt0
  have hgo' := hgo
  unfold goB at hgo'
  simp only [Bool.and_eq_true, decide_eq_true_eq, Bool.not_eq_true', beq_eq_false_iff_ne] at hgo'
  obtain ⟨⟨⟨⟨hma, hmb⟩, hs0⟩, hgw⟩, hnn⟩ := hgo'
  have FA := may_facts hma
  have FB := may_facts hmb
  have hpos := up_pos hs0
  have hrg := small_range n
  have hn24 : Near 16777216 n := nearB_iff.1 hpos.2.2
  have hax := axis_small hpos.2.2
  have hn20 := nearB_iff.1 hnn
  have hra := lohi24 hn24 a.P FA.np
  have hrb := lohi24 hn24 b.P FB.np
  have hneA : a.P ≠ [] := by intro h; have := FA.p0; rw [h] at this; simp at this
  have hneB : b.P ≠ [] := by intro h; have := FB.p0; rw [h] at this; simp at this
  have hfA := fronA_ne hneA (n := n) (by omega)
  have hfB := fronB_ne hneB (n := n) (by omega)
  obtain ⟨sm, hsm⟩ : ∃ v, v = smallP n := ⟨_, rfl⟩
  obtain ⟨up, hup⟩ : ∃ v, v = upP n := ⟨_, rfl⟩
  have HSm := Lib.hid hsm
  have HUp := Lib.hid hup
  rw [← hsm] at hs0 hpos hax
  rw [← hsm, ← hup] at hrg
  rw [← hup] at hpos
  obtain ⟨low, hlow⟩ : ∃ v, v = loL n b.P := ⟨_, rfl⟩
  obtain ⟨high, hhigh⟩ : ∃ v, v = hiL n a.P := ⟨_, rfl⟩
  have hlr := hrb.1
  have hhr := hra.2
  rw [← hlow] at hlr
  rw [← hhigh] at hhr
  have Hlow := Lib.hid hlow
  have Hhigh := Lib.hid hhigh
  have HN24 := Lib.hid hn24
  have HPA := Lib.hid pa
  have HPB := Lib.hid pb
  have Hax := Lib.hid hax
  have hsb : (sm == 0) = false := by simpa using hs0
  obtain ⟨hp1, hp2, -⟩ := hpos
  obtain ⟨sr0, sr1, sr2, sr3⟩ := hrg
  clear hsm hup hlow hhigh hra hrb hax hgo
  have HMa := Lib.hid hma
  have HMb := Lib.hid hmb
  have hBn : (fronB b n).length ≤ 100 := by have := frontL_len (atLo n (loL n b.P) (upP n)) b.P; have := FB.p1; unfold fronB; omega
  have hAn : (fronA a n).length ≤ 100 := by have := frontL_len (atHi n (hiL n a.P) (upP n)) a.P; have := FA.p1; unfold fronA; omega
  have hBlt : ∀ k ∈ fronB b n, k < b.P.length := fun k hk => (frontL_lt hk).1
  have hAlt : ∀ k ∈ fronA a n, k < a.P.length := fun k hk => (frontL_lt hk).1
  have HBn := Lib.hid hBn
  have HAn := Lib.hid hAn
  have HBlt := Lib.hid hBlt
  have HAlt := Lib.hid hAlt
  have HfA := Lib.hid hfA
  have HfB := Lib.hid hfB
  have HneA := Lib.hid hneA
  have HneB := Lib.hid hneB
  clear hBlt hAlt hAn hBn hfA hfB hneA hneB hma hmb hnn hn24
  have HA : Hid (∀ W, Below w.heap.size w W → Calls Try.prog 21 #[corV (Value.slice pa0 a.P.length pa1) (Value.slice aa0 a.A.length aa1) (Value.slice ea0 a.E.length ea1) a.r] W fun e W' => e = .returned (.bool (mayB a)) ∧ Below W.heap.size W W') := Lib.hid fun W hW => may21_any (Value.slice pa0 a.P.length pa1) (Value.slice aa0 a.A.length aa1) (Value.slice ea0 a.E.length ea1) a W (pa.new hW) (aa.new hW) (ea.new hW)
  have HB : Hid (∀ W, Below w.heap.size w W → Calls Try.prog 21 #[corV (Value.slice pb0 b.P.length pb1) (Value.slice ab0 b.A.length ab1) (Value.slice eb0 b.E.length eb1) b.r] W fun e W' => e = .returned (.bool (mayB b)) ∧ Below W.heap.size W W') := Lib.hid fun W hW => may21_any (Value.slice pb0 b.P.length pb1) (Value.slice ab0 b.A.length ab1) (Value.slice eb0 b.E.length eb1) b W (pb.new hW) (ab.new hW) (eb.new hW)
  obtain ⟨w1, hw1⟩ : ∃ w1, ((((w.alloc (.cells [(Value.slice pa0 a.P.length pa1), (Value.slice aa0 a.A.length aa1), (Value.slice ea0 a.E.length ea1), .int .i64 a.r].toArray 24)).alloc (.cells [(Value.slice pb0 b.P.length pb1), (Value.slice ab0 b.A.length ab1), (Value.slice eb0 b.E.length eb1), .int .i64 b.r].toArray 24)).alloc (.cells [.int .i64 n.x, .int .i64 n.y, .int .i64 n.z, .int .i64 gap].toArray 28)).alloc (.cells [.int .i64 0, .int .i64 0, .int .i64 0, .slice none 0 0].toArray 32)).alloc (.cells n.cells.toArray 26) = w1 := ⟨_, rfl⟩
  obtain ⟨c0, hc0⟩ : ∃ c, c = w.heap.size := ⟨_, rfl⟩
  have B0 : Below w.heap.size w w1 := by rw [← hw1]; exact (((((Below.refl _ w).alloc (Nat.le_refl _) _).alloc (by simp) _).alloc (by simp; omega) _).alloc (by simp; omega) _).alloc (by simp; omega) _
  have hb0 : Blk w1 c0 24 [(Value.slice pa0 a.P.length pa1), (Value.slice aa0 a.A.length aa1), (Value.slice ea0 a.E.length ea1), .int .i64 a.r] := by rw [← hw1, hc0]; exact ((((Blk.newAt (w := w) rfl 24 [(Value.slice pa0 a.P.length pa1), (Value.slice aa0 a.A.length aa1), (Value.slice ea0 a.E.length ea1), .int .i64 a.r]).alloc _).alloc _).alloc _).alloc _
  have hb1 : Blk w1 (c0 + 1) 24 [(Value.slice pb0 b.P.length pb1), (Value.slice ab0 b.A.length ab1), (Value.slice eb0 b.E.length eb1), .int .i64 b.r] := by rw [← hw1, hc0]; exact (((Blk.newAt (w := w.alloc _) (by simp) 24 [(Value.slice pb0 b.P.length pb1), (Value.slice ab0 b.A.length ab1), (Value.slice eb0 b.E.length eb1), .int .i64 b.r]).alloc _).alloc _).alloc _
  have hb2 : Blk w1 (c0 + 1 + 1) 28 [.int .i64 n.x, .int .i64 n.y, .int .i64 n.z, .int .i64 gap] := by rw [← hw1, hc0]; exact ((Blk.newAt (w := (w.alloc _).alloc _) (by simp) 28 [.int .i64 n.x, .int .i64 n.y, .int .i64 n.z, .int .i64 gap]).alloc _).alloc _
  have hb3 : Blk w1 (c0 + 1 + 1 + 1) 32 [.int .i64 0, .int .i64 0, .int .i64 0, .slice none 0 0] := by rw [← hw1, hc0]; exact (Blk.newAt (w := ((w.alloc _).alloc _).alloc _) (by simp) 32 [.int .i64 0, .int .i64 0, .int .i64 0, .slice none 0 0]).alloc _
  have hb4 : Blk w1 (c0 + 1 + 1 + 1 + 1) 26 n.cells := by rw [← hw1, hc0]; exact Blk.newAt (w := (((w.alloc _).alloc _).alloc _).alloc _) (by simp) 26 n.cells
  have x0 : ((((w.alloc (.cells [(Value.slice pa0 a.P.length pa1), (Value.slice aa0 a.A.length aa1), (Value.slice ea0 a.E.length ea1), .int .i64 a.r].toArray 24)).alloc (.cells [(Value.slice pb0 b.P.length pb1), (Value.slice ab0 b.A.length ab1), (Value.slice eb0 b.E.length eb1), .int .i64 b.r].toArray 24)).alloc (.cells [.int .i64 n.x, .int .i64 n.y, .int .i64 n.z, .int .i64 gap].toArray 28))).cell? ⟨w.heap.size + 1 + 1, 0, none⟩ = some (.int .i64 n.x) := (Blk.newAt (w := (w.alloc _).alloc _) (by simp) 28 [.int .i64 n.x, .int .i64 n.y, .int .i64 n.z, .int .i64 gap]).cell 0
  clear pa aa ea pb ab eb x0
  go_enter Try.func6, Try.ntmps6
  go_upto_region 2 with (fail)
  change Code.wp _ _ _ _ (((((w.alloc (.cells [(Value.slice pa0 a.P.length pa1), (Value.slice aa0 a.A.length aa1), (Value.slice ea0 a.E.length ea1), .int .i64 a.r].toArray 24)).alloc (.cells [(Value.slice pb0 b.P.length pb1), (Value.slice ab0 b.A.length ab1), (Value.slice eb0 b.E.length eb1), .int .i64 b.r].toArray 24)).alloc (.cells [.int .i64 n.x, .int .i64 n.y, .int .i64 n.z, .int .i64 gap].toArray 28)).alloc (.cells [.int .i64 0, .int .i64 0, .int .i64 0, .slice none 0 0].toArray 32)).alloc (.cells n.cells.toArray 26))
  rw [hw1]
  clear hw1
  simp only [← hc0]
  have Hc0 := Lib.hid hc0
  have HB1 := Lib.hid B0
  have hs1 := B0.size
  have k0 : _ = some (Value.int .i64 n.x) := hb4.cell 0
  have k1 : _ = some (Value.int .i64 n.y) := hb4.cell 1
  have k2 : _ = some (Value.int .i64 n.z) := hb4.cell 2
  have Hb0 := Lib.hid hb0
  have Hb1 := Lib.hid hb1
  have Hb2 := Lib.hid hb2
  have Hb3 := Lib.hid hb3
  have Hb4 := Lib.hid hb4
  clear hc0 B0 hb0 hb1 hb2 hb3 hb4
  go_wp2_with fail
  refine (sizes20_any n w1).mono ?_
  rintro e w2 ⟨rfl, hB2⟩
  have HB2 := Lib.hid (HB1.out.trans (hB2.mono hs1))
  have hs2 := HB2.out.size
  have Hb02 := Lib.hid (Hb0.out.below hB2 Hb0.out.lt)
  have Hb12 := Lib.hid (Hb1.out.below hB2 Hb1.out.lt)
  have Hb22 := Lib.hid (Hb2.out.below hB2 Hb2.out.lt)
  have Hb32 := Lib.hid (Hb3.out.below hB2 Hb3.out.lt)
  have Hb42 := Lib.hid (Hb4.out.below hB2 Hb4.out.lt)
  clear k0 k1 k2 hB2 Hb0 Hb1 Hb2 Hb3 Hb4 HB1 hs1
  rw [← HSm.out, ← HUp.out]
  have Hb0_2 := Hb02
  have Hb1_2 := Hb12
  have Hb2_2 := Hb22
  have Hb3_2 := Hb32
  have Hb4_2 := Hb42
  clear Hb02 Hb12 Hb22 Hb32 Hb42
  have k0 : _ = some ((Value.slice pa0 a.P.length pa1)) := Hb0_2.out.cell 0
  have k1 : _ = some ((Value.slice aa0 a.A.length aa1)) := Hb0_2.out.cell 1
  have k2 : _ = some ((Value.slice ea0 a.E.length ea1)) := Hb0_2.out.cell 2
  have k3 : _ = some (Value.int .i64 a.r) := Hb0_2.out.cell 3
  go_wp2_with fail
  refine (HA.out w2 HB2.out).mono ?_
  rintro e w3 ⟨rfl, hT⟩
  rw [HMa.out]
  have HB3 := Lib.hid (HB2.out.trans (hT.mono hs2))
  have hs3 := HB3.out.size
  have Hb0_3 := Lib.hid (Hb0_2.out.below hT Hb0_2.out.lt)
  have Hb1_3 := Lib.hid (Hb1_2.out.below hT Hb1_2.out.lt)
  have Hb2_3 := Lib.hid (Hb2_2.out.below hT Hb2_2.out.lt)
  have Hb3_3 := Lib.hid (Hb3_2.out.below hT Hb3_2.out.lt)
  have Hb4_3 := Lib.hid (Hb4_2.out.below hT Hb4_2.out.lt)
  clear k0 k1 k2 k3 hT HB2 hs2
  clear Hb0_2 Hb1_2 Hb2_2 Hb3_2 Hb4_2
  have k0 : _ = some ((Value.slice pb0 b.P.length pb1)) := Hb1_3.out.cell 0
  have k1 : _ = some ((Value.slice ab0 b.A.length ab1)) := Hb1_3.out.cell 1
  have k2 : _ = some ((Value.slice eb0 b.E.length eb1)) := Hb1_3.out.cell 2
  have k3 : _ = some (Value.int .i64 b.r) := Hb1_3.out.cell 3
  go_wp2_with fail
  refine (HB.out w3 HB3.out).mono ?_
  rintro e w4 ⟨rfl, hT⟩
  rw [HMb.out]
  have HB4 := Lib.hid (HB3.out.trans (hT.mono hs3))
  have hs4 := HB4.out.size
  have Hb0_4 := Lib.hid (Hb0_3.out.below hT Hb0_3.out.lt)
  have Hb1_4 := Lib.hid (Hb1_3.out.below hT Hb1_3.out.lt)
  have Hb2_4 := Lib.hid (Hb2_3.out.below hT Hb2_3.out.lt)
  have Hb3_4 := Lib.hid (Hb3_3.out.below hT Hb3_3.out.lt)
  have Hb4_4 := Lib.hid (Hb4_3.out.below hT Hb4_3.out.lt)
  clear k0 k1 k2 k3 hT HB3 hs3
  clear Hb0_3 Hb1_3 Hb2_3 Hb3_3 Hb4_3
  have g3 : _ = some (Value.int .i64 gap) := Hb2_4.out.cell 3
  have k0 : _ = some (Value.int .i64 n.x) := Hb4_4.out.cell 0
  have k1 : _ = some (Value.int .i64 n.y) := Hb4_4.out.cell 1
  have k2 : _ = some (Value.int .i64 n.z) := Hb4_4.out.cell 2
  go_upto_block 9 with (fail)
  change Code.wp _ _ _ _ (w4.alloc (.cells #[.int .i64 n.x, .int .i64 n.y, .int .i64 n.z] 3))
  obtain ⟨w5, hw5⟩ : ∃ w5, w4.alloc (.cells #[.int .i64 n.x, .int .i64 n.y, .int .i64 n.z] 3) = w5 := ⟨_, rfl⟩
  have hT : Below w4.heap.size w4 w5 := by rw [← hw5]; exact (Below.refl _ _).alloc (Nat.le_refl _) _
  have h5 : Blk w5 w4.heap.size 3 [.int .i64 n.x, .int .i64 n.y, .int .i64 n.z] := by rw [← hw5]; exact Blk.newAt (w := w4) rfl 3 [.int .i64 n.x, .int .i64 n.y, .int .i64 n.z]
  rw [hw5]
  clear hw5
  obtain ⟨t5, ht5e⟩ : ∃ v, v = w4.heap.size := ⟨_, rfl⟩
  rw [← ht5e] at h5 ⊢
  clear ht5e g3 k0 k1 k2
  have HB5 := Lib.hid (HB4.out.trans (hT.mono hs4))
  have hs5 := HB5.out.size
  have HF : Hid (∀ W, Below w5.heap.size w5 W → Blk W c0 24 [(Value.slice pa0 a.P.length pa1), (Value.slice aa0 a.A.length aa1), (Value.slice ea0 a.E.length ea1), .int .i64 a.r] ∧ Blk W (c0 + 1) 24 [(Value.slice pb0 b.P.length pb1), (Value.slice ab0 b.A.length ab1), (Value.slice eb0 b.E.length eb1), .int .i64 b.r] ∧ Blk W (c0 + 1 + 1 + 1) 32 [.int .i64 0, .int .i64 0, .int .i64 0, .slice none 0 0] ∧ Blk W (c0 + 1 + 1 + 1 + 1) 26 n.cells ∧ Rd W (Value.slice pa0 a.P.length pa1) a.P.length 3 (ptCells a.P) ∧ Rd W (Value.slice pb0 b.P.length pb1) b.P.length 3 (ptCells b.P) ∧ Below w.heap.size w W) := Lib.hid fun W hW => by
    have hW2 := hT.trans (hW.mono hT.size)
    have hW3 := HB5.out.trans (hW.mono hs5)
    exact ⟨Hb0_4.out.below hW2 Hb0_4.out.lt, Hb1_4.out.below hW2 Hb1_4.out.lt, Hb3_4.out.below hW2 Hb3_4.out.lt, Hb4_4.out.below hW2 Hb4_4.out.lt, HPA.out.new hW3, HPB.out.new hW3, hW3⟩
  clear hT HB4 hs4 HPA HPB Hb0_4 Hb1_4 Hb2_4 Hb3_4 Hb4_4
  have q0 : _ = some (Value.int .i64 n.x) := h5.cell 0
  have q1 : _ = some (Value.int .i64 n.y) := h5.cell 1
  have q2 : _ = some (Value.int .i64 n.z) := h5.cell 2
  have hn20' := hn20
  unfold Near at hn20'
  obtain ⟨⟨ha1, ha2⟩, ⟨ha3, ha4⟩, ha5, ha6⟩ := hn20'
  clear h5
  go_loopg [16] 3 (fun g i wx => wx = w5 ∧ ((g = 3 ∧ i = .int .i64 0) ∨ (g = 2 ∧ i = .int .i64 1) ∨ (g = 1 ∧ i = .int .i64 2) ∨ (g = 0 ∧ i = .int .i64 3)))
  case atStart => exact ⟨rfl, .inl ⟨rfl, rfl⟩⟩
  case round =>
    obtain ⟨hw5, hrel⟩ := hrel
    subst hw5
    obtain ⟨w5, hw5⟩ : ∃ w5 : World, w5 = wr := ⟨_, rfl⟩
    subst hw5
    rcases hrel with ⟨rfl, rfl⟩ | ⟨rfl, rfl⟩ | ⟨rfl, rfl⟩ | ⟨rfl, rfl⟩
    · clear HF
      go_wp2
      go_roundg 2
      case rel => exact ⟨rfl, .inr (.inl ⟨rfl, rfl⟩)⟩
      case measure => omega
    · clear HF
      go_wp2
      go_roundg 1
      case rel => exact ⟨rfl, .inr (.inr (.inl ⟨rfl, rfl⟩))⟩
      case measure => omega
    · clear HF
      go_wp2
      go_roundg 0
      case rel => exact ⟨rfl, .inr (.inr (.inr ⟨rfl, rfl⟩))⟩
      case measure => omega
    · clear q0 q1 q2
      obtain ⟨g0, g1, g3, g4, gp, gq, gB⟩ := HF.out w5 (Below.refl _ _)
      have k0 : _ = some ((Value.slice pa0 a.P.length pa1)) := g0.cell 0
      have k1 : _ = some ((Value.slice aa0 a.A.length aa1)) := g0.cell 1
      have k2 : _ = some ((Value.slice ea0 a.E.length ea1)) := g0.cell 2
      have k3 : _ = some (Value.int .i64 a.r) := g0.cell 3
      have i0 : _ = some (Value.int .i64 n.x) := g4.cell 0
      have i1 : _ = some (Value.int .i64 n.y) := g4.cell 1
      have i2 : _ = some (Value.int .i64 n.z) := g4.cell 2
      have HR := Lib.hid (reach22_call (Value.slice pa0 a.P.length pa1) (Value.slice aa0 a.A.length aa1) (Value.slice ea0 a.E.length ea1) a.r a.P n w5 gp HN24.out FA.np HneA.out)
      clear g0 g1 g3 g4 gp gq gB
      go_wp2_with fail
      refine HR.out.mono ?_
      rintro e w6 ⟨rfl, hT⟩
      rw [← Hhigh.out]
      obtain ⟨LA, hLA⟩ : ∃ v, v = loL n a.P := ⟨_, rfl⟩
      rw [← hLA]
      have HX6 := Lib.hid hT
      clear hLA hT
      clear k0 k1 k2 k3 i0 i1 i2 HR
      obtain ⟨g0, g1, g3, g4, gp, gq, gB⟩ := HF.out w6 HX6.out
      have k0 : _ = some ((Value.slice pb0 b.P.length pb1)) := g1.cell 0
      have k1 : _ = some ((Value.slice ab0 b.A.length ab1)) := g1.cell 1
      have k2 : _ = some ((Value.slice eb0 b.E.length eb1)) := g1.cell 2
      have k3 : _ = some (Value.int .i64 b.r) := g1.cell 3
      have i0 : _ = some (Value.int .i64 n.x) := g4.cell 0
      have i1 : _ = some (Value.int .i64 n.y) := g4.cell 1
      have i2 : _ = some (Value.int .i64 n.z) := g4.cell 2
      have HR := Lib.hid (reach22_call (Value.slice pb0 b.P.length pb1) (Value.slice ab0 b.A.length ab1) (Value.slice eb0 b.E.length eb1) b.r b.P n w6 gq HN24.out FB.np HneB.out)
      clear g0 g1 g3 g4 gp gq gB
      go_wp2_with fail
      refine HR.out.mono ?_
      rintro e w7 ⟨rfl, hT⟩
      rw [← Hlow.out]
      obtain ⟨GB, hGB⟩ : ∃ v, v = hiL n b.P := ⟨_, rfl⟩
      rw [← hGB]
      clear hGB
      have HX7 := Lib.hid (HX6.out.trans (hT.mono HX6.out.size))
      clear hT
      clear k0 k1 k2 k3 i0 i1 i2 HR
      obtain ⟨g0, g1, g3, g4, gp, gq, gB⟩ := HF.out w7 HX7.out
      have k0 : _ = some ((Value.slice pa0 a.P.length pa1)) := g0.cell 0
      have k1 : _ = some ((Value.slice aa0 a.A.length aa1)) := g0.cell 1
      have k2 : _ = some ((Value.slice ea0 a.E.length ea1)) := g0.cell 2
      have k3 : _ = some (Value.int .i64 a.r) := g0.cell 3
      have i0 : _ = some (Value.int .i64 n.x) := g4.cell 0
      have i1 : _ = some (Value.int .i64 n.y) := g4.cell 1
      have i2 : _ = some (Value.int .i64 n.z) := g4.cell 2
      have HR := Lib.hid (by have h := fronA_call (Value.slice pa0 a.P.length pa1) (Value.slice aa0 a.A.length aa1) (Value.slice ea0 a.E.length ea1) a n w7 gp HN24.out FA.np (by have := FA.p1; omega) HneA.out (by rw [← HUp.out]; omega); rw [← HUp.out] at h; exact h)
      clear g0 g1 g3 g4 gp gq gB
      go_wp2_with fail
      refine HR.out.mono ?_
      rintro e w8 ⟨⟨lvA, rfl, hownA⟩, hT⟩
      have HOA_8 := Lib.hid (Rd.of_own hownA)
      clear hownA
      have HX8 := Lib.hid (HX7.out.trans (hT.mono HX7.out.size))
      clear hT
      clear k0 k1 k2 k3 i0 i1 i2 HR
      obtain ⟨g0, g1, g3, g4, gp, gq, gB⟩ := HF.out w8 HX8.out
      have k0 : _ = some ((Value.slice pb0 b.P.length pb1)) := g1.cell 0
      have k1 : _ = some ((Value.slice ab0 b.A.length ab1)) := g1.cell 1
      have k2 : _ = some ((Value.slice eb0 b.E.length eb1)) := g1.cell 2
      have k3 : _ = some (Value.int .i64 b.r) := g1.cell 3
      have i0 : _ = some (Value.int .i64 n.x) := g4.cell 0
      have i1 : _ = some (Value.int .i64 n.y) := g4.cell 1
      have i2 : _ = some (Value.int .i64 n.z) := g4.cell 2
      have HR := Lib.hid (by have h := fronB_call (Value.slice pb0 b.P.length pb1) (Value.slice ab0 b.A.length ab1) (Value.slice eb0 b.E.length eb1) b n w8 gq HN24.out FB.np (by have := FB.p1; omega) HneB.out (by rw [← HUp.out]; omega); rw [← HUp.out] at h; exact h)
      clear g0 g1 g3 g4 gp gq gB
      go_wp2_with fail
      refine HR.out.mono ?_
      rintro e w9 ⟨⟨lvB, rfl, hownB⟩, hT⟩
      have HOB_9 := Lib.hid (Rd.of_own hownB)
      have HOA_9 := Lib.hid (HOA_8.out.new hT)
      clear hownB HOA_8
      have HX9 := Lib.hid (HX8.out.trans (hT.mono HX8.out.size))
      clear hT
      clear k0 k1 k2 k3 i0 i1 i2 HR
      go_upto_region 18 with (fail)
      obtain ⟨sA, hsA⟩ : ∃ v, v = spreadL ((fronA a n).map (ptAt a.P)) := ⟨_, rfl⟩
      obtain ⟨sB, hsB⟩ : ∃ v, v = spreadL ((fronB b n).map (ptAt b.P)) := ⟨_, rfl⟩
      have HsA := Lib.hid hsA
      have HsB := Lib.hid hsB
      clear hsA hsB
      obtain ⟨g0, g1, g3, g4, gp, gq, gB⟩ := HF.out w9 HX9.out
      have HG0 := Lib.hid g0
      have HG1 := Lib.hid g1
      have HGP := Lib.hid gp
      have HGQ := Lib.hid gq
      clear g0 g1 g3 g4 gp gq gB
      have HXA : Hid (∀ u : After w9, Calls Try.prog 24 #[.agg #[(Value.slice pa0 a.P.length pa1), (Value.slice aa0 a.A.length aa1), (Value.slice ea0 a.E.length ea1), .int .i64 a.r], lvA] u.W fun e w' => e = .returned (.int .i64 sA) ∧ Below u.W.heap.size u.W w') := Lib.hid fun u => by
        rw [HsA.out]
        exact spread24_call (Value.slice pa0 a.P.length pa1) (Value.slice aa0 a.A.length aa1) (Value.slice ea0 a.E.length ea1) a.r a.P lvA (fronA a n) u.W (HGP.out.new u.h) FA.np HAn.out (HOA_9.out.new u.h) HAlt.out HfA.out
      have HXB : Hid (∀ u : After w9, Calls Try.prog 24 #[.agg #[(Value.slice pb0 b.P.length pb1), (Value.slice ab0 b.A.length ab1), (Value.slice eb0 b.E.length eb1), .int .i64 b.r], lvB] u.W fun e w' => e = .returned (.int .i64 sB) ∧ Below u.W.heap.size u.W w') := Lib.hid fun u => by
        rw [HsB.out]
        exact spread24_call (Value.slice pb0 b.P.length pb1) (Value.slice ab0 b.A.length ab1) (Value.slice eb0 b.E.length eb1) b.r b.P lvB (fronB b n) u.W (HGQ.out.new u.h) FB.np HBn.out (HOB_9.out.new u.h) HBlt.out HfB.out
      have E0 : ∀ u : After w9, u.W.cell? ⟨c0, 0, none⟩ = some ((Value.slice pa0 a.P.length pa1)) := fun u => (HG0.out.below u.h HG0.out.lt).cell 0
      have E1 : ∀ u : After w9, u.W.cell? ⟨c0, 1, none⟩ = some ((Value.slice aa0 a.A.length aa1)) := fun u => (HG0.out.below u.h HG0.out.lt).cell 1
      have E2 : ∀ u : After w9, u.W.cell? ⟨c0, 2, none⟩ = some ((Value.slice ea0 a.E.length ea1)) := fun u => (HG0.out.below u.h HG0.out.lt).cell 2
      have E3 : ∀ u : After w9, u.W.cell? ⟨c0, 3, none⟩ = some (.int .i64 a.r) := fun u => (HG0.out.below u.h HG0.out.lt).cell 3
      have F0 : ∀ u : After w9, u.W.cell? ⟨c0 + 1, 0, none⟩ = some ((Value.slice pb0 b.P.length pb1)) := fun u => (HG1.out.below u.h HG1.out.lt).cell 0
      have F1 : ∀ u : After w9, u.W.cell? ⟨c0 + 1, 1, none⟩ = some ((Value.slice ab0 b.A.length ab1)) := fun u => (HG1.out.below u.h HG1.out.lt).cell 1
      have F2 : ∀ u : After w9, u.W.cell? ⟨c0 + 1, 2, none⟩ = some ((Value.slice eb0 b.E.length eb1)) := fun u => (HG1.out.below u.h HG1.out.lt).cell 2
      have F3 : ∀ u : After w9, u.W.cell? ⟨c0 + 1, 3, none⟩ = some (.int .i64 b.r) := fun u => (HG1.out.below u.h HG1.out.lt).cell 3
      refine wp_region_after (by kernel_rfl) (by kernel_rfl) ?_
      repeat (go_big_quiet_step ((go_at_call 24; first | with_reducible exact calls_after _ (HXA.out _) | with_reducible exact calls_after _ (HXB.out _))))
      refine wpQuiet_nil ?_
      intro w10 hw10
      obtain ⟨u10, rfl⟩ := hw10
      clear E0 E1 E2 E3 F0 F1 F2 F3 HXA HXB
      obtain ⟨w10, hw10⟩ : ∃ v, v = u10.W := ⟨_, rfl⟩
      have hT : Below w9.heap.size w9 w10 := by rw [hw10]; exact u10.h
      rw [← hw10]
      clear hw10
      have HOA_10 := Lib.hid (HOA_9.out.new hT)
      have HOB_10 := Lib.hid (HOB_9.out.new hT)
      have HX10 := Lib.hid (HX9.out.trans (hT.mono HX9.out.size))
      clear hT
      clear u10 HOA_9 HOB_9 HG0 HG1 HGP HGQ HX6 HX7 HX8
      have hlt : sA < sB := by rw [HsA.out, HsB.out]; first | exact Hlt.out | exact Int.not_lt.2 Hlt.out
      · have hsp : spotsP a b n within = ((fronA a n).map (mkA a b n)).filter (keepS within) := by unfold spotsP; rw [← HsA.out, ← HsB.out, if_pos hlt]
        have HSP := Lib.hid hsp
        rw [decide_eq_true hlt]
        obtain ⟨ia, ic, rfl, ii1, ii2⟩ := HOA_10.out.shape
        obtain ⟨bi, oi, rfl⟩ := HOA_10.out.addr (by intro h; exact HfA.out (List.length_eq_zero_iff.1 h))
        obtain ⟨g0, g1, g3, g4, gp, gq, gB⟩ := HF.out w10 HX10.out
        obtain ⟨bp, op, rfl⟩ := gp.addr (by have := FA.p0; omega)
        clear g0 g1 g3 g4 gp gq gB ii1 ii2
        have hnear : Hid (∀ k, Near 67108864 (mkA a b n k).p) := Lib.hid fun k => by
          have hx := Hax.out
          rw [HSm.out] at hx hp1
          have := mk_near (n := n) (k := k) (1) (by simp) FA.np (shift_range hx.1 hp1 FA.r0) (shift_range hx.2.1 hp1 FA.r0) (shift_range hx.2.2 hp1 FA.r0) FA.r1
          simpa [mkA, Int.sub_eq_add_neg] using this
        have hLlt := HAlt.out
        have hLn := HAn.out
        clear hsp
        generalize fronA a n = L at *
        have HLlt := Lib.hid hLlt
        generalize hnT : L.length = nT at *
        have HnT := Lib.hid hnT
        clear hLlt hnT
        have HF2 : Hid (∀ W, Below w10.heap.size w10 W → Blk W c0 24 [(Value.slice (some ⟨bp, op, none⟩) a.P.length pa1), (Value.slice aa0 a.A.length aa1), (Value.slice ea0 a.E.length ea1), .int .i64 a.r] ∧ Blk W (c0 + 1) 24 [(Value.slice pb0 b.P.length pb1), (Value.slice ab0 b.A.length ab1), (Value.slice eb0 b.E.length eb1), .int .i64 b.r] ∧ Blk W (c0 + 1 + 1 + 1) 32 [.int .i64 0, .int .i64 0, .int .i64 0, .slice none 0 0] ∧ Blk W (c0 + 1 + 1 + 1 + 1) 26 n.cells ∧ Rd W (Value.slice (some ⟨bp, op, none⟩) a.P.length pa1) a.P.length 3 (ptCells a.P) ∧ Rd W (Value.slice (some ⟨bi, oi, none⟩) nT ic) nT 1 (idxCells L) ∧ Below w.heap.size w W) := Lib.hid fun W hW => by
          obtain ⟨g0, g1, g3, g4, gp, gq, gB⟩ := HF.out W (HX10.out.trans (hW.mono HX10.out.size))
          exact ⟨g0, g1, g3, g4, gp, HOA_10.out.new hW, gB⟩
        have Hzero : Hid (∀ W : World, (W.ownsRow w10.heap.size 40 5 (.slice none 0 0) 0 (spCells ((L.take 0).map (mkA a b n))))) := Lib.hid fun W => World.ownsRow_nil _ _ _ _
        clear HX9 HX10 HOA_10 HOB_10 HF
        go_upto_block 20 with (fail)
        go_loopg [23, 24, 25, 26] nT (fun g sv i _ _ wx => ∃ k : Nat, g = nT - k ∧ k ≤ nT ∧ i = .int .i64 (k : Int) ∧ wx.ownsRow w10.heap.size 40 5 sv k (spCells ((L.take k).map (mkA a b n))) ∧ Below w10.heap.size w10 wx)
        case atStart => exact ⟨0, rfl, Nat.zero_le _, rfl, Hzero.out _, Below.refl _ _⟩
        case round =>
          obtain ⟨k, hg, hk, rfl, hown, hB⟩ := hrel
          have Hg := Lib.hid hg
          have HB := Lib.hid hB
          obtain ⟨ao, cap, rfl, -, -, -⟩ := own_clip hown
          have hsr := hB.size
          have Hown := Lib.hid hown
          clear hg hB hown
          by_cases hkn : k < nT
          · obtain ⟨x, hx⟩ : ∃ x, L[k]? = some x := ⟨_, List.getElem?_eq_getElem (by rw [HnT.out]; exact hkn)⟩
            have hxn := HLlt.out x (List.mem_of_getElem? hx)
            have hpn := ptAt_near FA.np (by decide) x
            have hsn := take_map_snoc (mk := mkA a b n) hx
            obtain ⟨s, hs⟩ : ∃ s, s = mkA a b n x := ⟨_, rfl⟩
            rw [← hs] at hsn
            have hs' := hs
            unfold mkA at hs'
            have hsx : s.p.x = (ptAt a.P x).x + (n.x * a.r).tdiv sm := by rw [hs', HSm.out]
            have hsy : s.p.y = (ptAt a.P x).y + (n.y * a.r).tdiv sm := by rw [hs', HSm.out]
            have hsz : s.p.z = (ptAt a.P x).z + (n.z * a.r).tdiv sm := by rw [hs', HSm.out]
            have hpg := ptAt_get (l := a.P) (k := x) hxn
            obtain ⟨p, hp⟩ : ∃ p, p = ptAt a.P x := ⟨_, rfl⟩
            rw [← hp] at hpn hsx hsy hsz hpg
            obtain ⟨dv, hdv⟩ : ∃ dv, dv = dotP n p := ⟨_, rfl⟩
            have hdr : -844424930131968 ≤ dv ∧ dv ≤ 844424930131968 := by have := dot24 HN24.out hpn; rw [hdv]; omega
            have hsd : s.d = downP (dv - low) sm + a.r + b.r := by rw [hs', hdv, hp, HSm.out, Hlow.out]
            have hsi : s.id = (x : Int) := by rw [hs']
            have hDr : -1688849860263936 ≤ dv - low ∧ dv - low ≤ 1688849860263936 := by omega
            have hQr := down_range hDr hp1
            obtain ⟨Q, hQ⟩ : ∃ Q, Q = downP (dv - low) sm := ⟨_, rfl⟩
            rw [← hQ] at hsd hQr
            have HQ := Lib.hid hQ
            have Hdv := Lib.hid hdv
            have Hsn := Lib.hid hsn
            have Hpn := Lib.hid hpn
            have Hsx := Lib.hid hsx
            have Hsy := Lib.hid hsy
            have Hsz := Lib.hid hsz
            have Hsd := Lib.hid hsd
            have Hsi := Lib.hid hsi
            have HDr := Lib.hid hDr
            have HM26 : Hid (∀ W, Calls Try.prog 26 #[ptV n, ptV p] W fun e w' => e = .returned (.int .i64 dv) ∧ Below W.heap.size W w') := Lib.hid fun W => by
              rw [Hdv.out]
              exact dot26_any n p W (near_mono HN24.out (by decide)) (near_mono Hpn.out (by decide))
            have HM25 : Hid (∀ W, Calls Try.prog 25 #[.int .i64 (dv - low), .int .i64 sm] W fun e w' => e = .returned (.int .i64 Q) ∧ Below W.heap.size W w') := Lib.hid fun W => by
              rw [HQ.out]
              refine (down25_any (dv - low) sm W (by have := HDr.out; omega) ⟨hp1, by omega⟩).mono ?_
              rintro e w' ⟨rfl, rfl⟩
              exact ⟨rfl, Below.refl _ _⟩
            have HC4 : Hid (∀ W, Below w10.heap.size w10 W → (fun W : World => W.cell? ⟨c0, 0, none⟩ = some (.slice (some ⟨bp, op, none⟩) a.P.length pa1) ∧ W.cell? ⟨bi, oi + k, none⟩ = some (.int .i64 (x : Int)) ∧ W.cell? ⟨bp, op + x * 3, none⟩ = some (.int .i64 p.x) ∧ W.cell? ⟨bp, op + x * 3 + 1, none⟩ = some (.int .i64 p.y) ∧ W.cell? ⟨bp, op + x * 3 + 2, none⟩ = some (.int .i64 p.z)) W) := Lib.hid fun W hW => by
              obtain ⟨g0, g1, g3, g4, gp, gi, gB⟩ := HF2.out W hW
              obtain ⟨p0, p1, p2⟩ := gp.pt hxn hpg
              exact ⟨g0.cell 0, gi.idx hkn hx, p0, p1, p2⟩
            have hkI : (k : Int) < (nT : Int) := by omega
            have hxI : (x : Int) < (a.P.length : Int) := by omega
            have hxI0 : (0 : Int) ≤ (x : Int) := by omega
            have HGX : Hid (∀ W, Below w10.heap.size w10 W → W.cell? ⟨bi, oi + k, none⟩ = some (.int .i64 (x : Int))) := Lib.hid fun W hW => (HC4.out W hW).2.1
            clear hx hs hs' hsx hsy hsz hp hQ hsd hsi hsn hDr hpn hpg hdv
            have P4 : Hid (∀ W, Below wr.heap.size wr W → (fun W : World => W.cell? ⟨c0, 0, none⟩ = some (.slice (some ⟨bp, op, none⟩) a.P.length pa1) ∧ W.cell? ⟨bi, oi + k, none⟩ = some (.int .i64 (x : Int)) ∧ W.cell? ⟨bp, op + x * 3, none⟩ = some (.int .i64 p.x) ∧ W.cell? ⟨bp, op + x * 3 + 1, none⟩ = some (.int .i64 p.y) ∧ W.cell? ⟨bp, op + x * 3 + 2, none⟩ = some (.int .i64 p.z)) W) := Lib.hid fun W hW => HC4.out W (HB.out.trans (hW.mono hsr))
            go_upto_region 22 with (fail)
            go_cut [25] (fun v wx => ∃ b25, v = .pointer (some ⟨b25, 0, none⟩) ∧ Blk wx b25 26 p.cells ∧ Below wr.heap.size wr wx)
            case first =>
              clear HQ Hdv Hsn Hpn Hsx Hsy Hsz Hsd Hsi HDr HM26 HM25 HC4 HGX Hown
              go_region_held3 (fun W : World => W.cell? ⟨c0, 0, none⟩ = some (.slice (some ⟨bp, op, none⟩) a.P.length pa1) ∧ W.cell? ⟨bi, oi + k, none⟩ = some (.int .i64 (x : Int)) ∧ W.cell? ⟨bp, op + x * 3, none⟩ = some (.int .i64 p.x) ∧ W.cell? ⟨bp, op + x * 3 + 1, none⟩ = some (.int .i64 p.y) ∧ W.cell? ⟨bp, op + x * 3 + 2, none⟩ = some (.int .i64 p.z))
                (first
                  | exact P4.out _ (Below.refl wr.heap.size wr).drew
                  | exact P4.out _ ((Below.refl wr.heap.size wr).alloc (Nat.le_refl _) _).drew
                  | exact P4.out _ ((Below.refl wr.heap.size wr).drew.alloc (Nat.le_refl _) _)
                  | exact P4.out _ (((((Below.refl wr.heap.size wr).alloc (Nat.le_refl _) _).drew.setCell (p := ⟨wr.heap.size, 0, none⟩) (Nat.le_refl _) _).setCell (p := ⟨wr.heap.size, 1, none⟩) (Nat.le_refl _) _).setCell (p := ⟨wr.heap.size, 2, none⟩) (Nat.le_refl _) _))
                (fail)
              all_goals (first | go_wp2 | skip)
              all_goals go_meet
              all_goals exact ⟨_, rfl, (Blk.new wr 26 _).drew, ((Below.refl wr.heap.size wr).alloc (Nat.le_refl _) _).drew⟩
            case rest =>
              obtain ⟨b25, rfl, hb25, hB25⟩ := hcut
              obtain ⟨w21, hw21⟩ : ∃ v : World, v = wc := ⟨_, rfl⟩
              subst hw21
              have HB21 := Lib.hid (HB.out.trans (hB25.mono hsr))
              have hs21 := HB21.out.size
              have Hown2 := Lib.hid (own_new Hown.out hB25)
              have Hb25 := Lib.hid hb25
              clear hB25 hb25 Hown HB hsr P4
              have P5 : Hid (∀ W, Below w21.heap.size w21 W → (fun W : World => W.cell? ⟨b25, 0, none⟩ = some (.int .i64 p.x) ∧ W.cell? ⟨b25, 1, none⟩ = some (.int .i64 p.y) ∧ W.cell? ⟨b25, 2, none⟩ = some (.int .i64 p.z) ∧ W.cell? ⟨c0 + 1 + 1 + 1 + 1, 0, none⟩ = some (.int .i64 n.x) ∧ W.cell? ⟨c0 + 1 + 1 + 1 + 1, 1, none⟩ = some (.int .i64 n.y) ∧ W.cell? ⟨c0 + 1 + 1 + 1 + 1, 2, none⟩ = some (.int .i64 n.z) ∧ W.cell? ⟨c0, 3, none⟩ = some (.int .i64 a.r)) W) := Lib.hid fun W hW => by
                obtain ⟨g0, g1, g3, g4, gp, gi, gB⟩ := HF2.out W (HB21.out.trans (hW.mono hs21))
                have h25 := Hb25.out.below hW Hb25.out.lt
                exact ⟨h25.cell 0, h25.cell 1, h25.cell 2, g4.cell 0, g4.cell 1, g4.cell 2, g0.cell 3⟩
              have hra := FA.r0
              have hra1 := FA.r1
              have hpx := prod_range hn20.1 ⟨hra, hra1⟩
              have hpy := prod_range hn20.2.1 ⟨hra, hra1⟩
              have hpz := prod_range hn20.2.2 ⟨hra, hra1⟩
              have htx := shift_range Hax.out.1 hp1 hra
              have hty := shift_range Hax.out.2.1 hp1 hra
              have htz := shift_range Hax.out.2.2 hp1 hra
              have hpn := Hpn.out
              unfold Near at hpn
              have e1 := IntWalk.i64_in (n.x * a.r) (by omega)
              have e2 := IntWalk.i64_in (n.y * a.r) (by omega)
              have e3 := IntWalk.i64_in (n.z * a.r) (by omega)
              have e4 := IntWalk.i64_in ((n.x * a.r).tdiv sm) (by omega)
              have e5 := IntWalk.i64_in ((n.y * a.r).tdiv sm) (by omega)
              have e6 := IntWalk.i64_in ((n.z * a.r).tdiv sm) (by omega)
              have e7 := IntWalk.i64_in s.p.x (by rw [Hsx.out]; omega)
              have e8 := IntWalk.i64_in s.p.y (by rw [Hsy.out]; omega)
              have e9 := IntWalk.i64_in s.p.z (by rw [Hsz.out]; omega)
              rw [Hsx.out] at e7
              rw [Hsy.out] at e8
              rw [Hsz.out] at e9
              clear hpx hpy hpz htx hty htz hpn
              go_upto_region 23 with (fail)
              go_cut [26] (fun v wx => ∃ b26, v = .pointer (some ⟨b26, 0, none⟩) ∧ Blk wx b26 26 s.p.cells ∧ Below w21.heap.size w21 wx)
              case first =>
                clear HQ Hdv Hsn Hpn Hsd Hsi HDr HM26 HM25 HC4 HGX Hown2 Hb25
                go_region_held3 (fun W : World => W.cell? ⟨b25, 0, none⟩ = some (.int .i64 p.x) ∧ W.cell? ⟨b25, 1, none⟩ = some (.int .i64 p.y) ∧ W.cell? ⟨b25, 2, none⟩ = some (.int .i64 p.z) ∧ W.cell? ⟨c0 + 1 + 1 + 1 + 1, 0, none⟩ = some (.int .i64 n.x) ∧ W.cell? ⟨c0 + 1 + 1 + 1 + 1, 1, none⟩ = some (.int .i64 n.y) ∧ W.cell? ⟨c0 + 1 + 1 + 1 + 1, 2, none⟩ = some (.int .i64 n.z) ∧ W.cell? ⟨c0, 3, none⟩ = some (.int .i64 a.r))
                  (first
                    | exact P5.out _ (Below.refl w21.heap.size w21).drew
                    | exact P5.out _ ((Below.refl w21.heap.size w21).alloc (Nat.le_refl _) _).drew
                    | exact P5.out _ ((Below.refl w21.heap.size w21).drew.alloc (Nat.le_refl _) _)
                    | exact P5.out _ (((((Below.refl w21.heap.size w21).alloc (Nat.le_refl _) _).drew.setCell (p := ⟨w21.heap.size, 0, none⟩) (Nat.le_refl _) _).setCell (p := ⟨w21.heap.size, 1, none⟩) (Nat.le_refl _) _).setCell (p := ⟨w21.heap.size, 2, none⟩) (Nat.le_refl _) _))
                  (fail)
                all_goals (first | go_wp2 | skip)
                all_goals go_meet
                all_goals exact ⟨_, rfl, ((Blk.new w21 26 _).drew).cast (by simp only [Pt.cells, Hsx.out, Hsy.out, Hsz.out]), ((Below.refl w21.heap.size w21).alloc (Nat.le_refl _) _).drew⟩
              case rest =>
                obtain ⟨b26, rfl, hb26, hB26⟩ := hcut
                obtain ⟨w22, hw22⟩ : ∃ v : World, v = wc := ⟨_, rfl⟩
                subst hw22
                have HB22 := Lib.hid (HB21.out.trans (hB26.mono hs21))
                have hs22 := HB22.out.size
                have Hown3 := Lib.hid (own_new Hown2.out hB26)
                have Hb26 := Lib.hid hb26
                have Hb25' := Lib.hid (Hb25.out.below hB26 Hb25.out.lt)
                clear hB26 hb26 Hown2 HB21 hs21 P5 Hb25 e1 e2 e3 e4 e5 e6 e7 e8 e9
                have P6 : Hid (∀ W, Below w22.heap.size w22 W → (fun W : World => W.cell? ⟨b26, 0, none⟩ = some (.int .i64 s.p.x) ∧ W.cell? ⟨b26, 1, none⟩ = some (.int .i64 s.p.y) ∧ W.cell? ⟨b26, 2, none⟩ = some (.int .i64 s.p.z) ∧ W.cell? ⟨c0 + 1 + 1 + 1 + 1, 0, none⟩ = some (.int .i64 n.x) ∧ W.cell? ⟨c0 + 1 + 1 + 1 + 1, 1, none⟩ = some (.int .i64 n.y) ∧ W.cell? ⟨c0 + 1 + 1 + 1 + 1, 2, none⟩ = some (.int .i64 n.z) ∧ W.cell? ⟨b25, 0, none⟩ = some (.int .i64 p.x) ∧ W.cell? ⟨b25, 1, none⟩ = some (.int .i64 p.y) ∧ W.cell? ⟨b25, 2, none⟩ = some (.int .i64 p.z) ∧ W.cell? ⟨c0, 3, none⟩ = some (.int .i64 a.r) ∧ W.cell? ⟨c0 + 1, 3, none⟩ = some (.int .i64 b.r) ∧ W.cell? ⟨bi, oi + k, none⟩ = some (.int .i64 (x : Int))) W) := Lib.hid fun W hW => by
                  obtain ⟨g0, g1, g3, g4, gp, gi, gB⟩ := HF2.out W (HB22.out.trans (hW.mono hs22))
                  have h25 := Hb25'.out.below hW Hb25'.out.lt
                  have h26 := Hb26.out.below hW Hb26.out.lt
                  exact ⟨h26.cell 0, h26.cell 1, h26.cell 2, g4.cell 0, g4.cell 1, g4.cell 2, h25.cell 0, h25.cell 1, h25.cell 2, g0.cell 3, g1.cell 3, HGX.out W (HB22.out.trans (hW.mono hs22))⟩
                have hra := FA.r0
                have hra1 := FA.r1
                have hrb := FB.r0
                have hrb1 := FB.r1
                have e0 := IntWalk.i64_in (dv - low) (by omega)
                have e1 := IntWalk.i64_in (Q + a.r) (by omega)
                have e2 := IntWalk.i64_in (Q + a.r + b.r) (by omega)
                have e3 := IntWalk.i64_in (256 + (x : Int)) (by have := FA.p1; omega)
                have hk100 : k ≤ 100 := by omega
                obtain ⟨i0, hi, hz0, hz1, hz2⟩ := info_parts info40
                clear hdr hQr
                go_upto_region 24 with (fail)
                go_region_held3 (fun W : World => W.cell? ⟨b26, 0, none⟩ = some (.int .i64 s.p.x) ∧ W.cell? ⟨b26, 1, none⟩ = some (.int .i64 s.p.y) ∧ W.cell? ⟨b26, 2, none⟩ = some (.int .i64 s.p.z) ∧ W.cell? ⟨c0 + 1 + 1 + 1 + 1, 0, none⟩ = some (.int .i64 n.x) ∧ W.cell? ⟨c0 + 1 + 1 + 1 + 1, 1, none⟩ = some (.int .i64 n.y) ∧ W.cell? ⟨c0 + 1 + 1 + 1 + 1, 2, none⟩ = some (.int .i64 n.z) ∧ W.cell? ⟨b25, 0, none⟩ = some (.int .i64 p.x) ∧ W.cell? ⟨b25, 1, none⟩ = some (.int .i64 p.y) ∧ W.cell? ⟨b25, 2, none⟩ = some (.int .i64 p.z) ∧ W.cell? ⟨c0, 3, none⟩ = some (.int .i64 a.r) ∧ W.cell? ⟨c0 + 1, 3, none⟩ = some (.int .i64 b.r) ∧ W.cell? ⟨bi, oi + k, none⟩ = some (.int .i64 (x : Int)))
                  (first
                    | exact P6.out _ (Below.refl w22.heap.size w22).drew
                    | exact P6.out _ ((Below.refl w22.heap.size w22).drew.trans hBm)
                    | exact P6.out _ (((Below.refl w22.heap.size w22).drew.trans hBm).trans (hBn.mono hBm.size))
                    | exact P6.out _ ((((Below.refl w22.heap.size w22).drew.trans hBm).trans (hBn.mono hBm.size)).alloc (Nat.le_trans hBm.size hBn.size) _)
                    | exact P71)
                  (first
                    | (go_at_call 26; refine (HM26.out _).mono ?_; rintro e wm ⟨rfl, hBm⟩)
                    | (go_at_call 25; refine (HM25.out _).mono ?_; rintro e wn ⟨rfl, hBn⟩)
                    | (rw [← Hsd.out]
                       have hwn : w10.heap.size ≤ wn.heap.size := Nat.le_trans hs22 (Nat.le_trans hBm.size hBn.size)
                       refine step_append_lies _ (by rfl) _ _ _ (by rfl) w10.heap.size 40 i0 _ 5 40 Try.underlying30 hi hz0 hz1 hz2 rfl (by omega) _ k (spCells ((L.take k).map (mkA a b n))) (by rfl) ((own_new (own_new Hown3.out.drew hBm) hBn).alloc _) ⟨wn.heap.size, 0, none⟩ 1 1 [.int .i64 s.p.x, .int .i64 s.p.y, .int .i64 s.p.z, .int .i64 s.d, .int .i64 (x : Int)] (by rfl) (by rfl) (World.news_of_block (cs := #[.int .i64 s.p.x, .int .i64 s.p.y, .int .i64 s.p.z, .int .i64 s.d, .int .i64 (x : Int)]) (t := 40) (fr := (0, 0)) (heap_alloc_new wn _)) (by simp [Value.oneCell']) (by omega) (by unfold maxLen; omega) (by omega) (by simp; omega) (wn.heap.size + 1) (by simp) ?_
                       intro gg71 cap71 w71 o71 g71 hat71 hlt71
                       have B71 : Below w10.heap.size w10 w71 := (((HB22.out.drew.trans (hBm.mono hs22)).trans (hBn.mono (Nat.le_trans hs22 hBm.size))).alloc (Nat.le_trans hs22 (Nat.le_trans hBm.size hBn.size)) (.cells #[.int .i64 s.p.x, .int .i64 s.p.y, .int .i64 s.p.z, .int .i64 s.d, .int .i64 (x : Int)] 40)).grown g71 (by simp; omega) (fun r hr => ownBlock_ge Hown3.out hr)
                       have o70 := (own_new (own_new Hown3.out.drew hBm) hBn).alloc (.cells #[.int .i64 s.p.x, .int .i64 s.p.y, .int .i64 s.p.z, .int .i64 s.d, .int .i64 (x : Int)] 40)
                       have h25a := Hb25'.out.drew.below hBm Hb25'.out.lt
                       have h25b := h25a.below hBn h25a.lt
                       have h25 := blk_grown (h25b.alloc (.cells #[.int .i64 s.p.x, .int .i64 s.p.y, .int .i64 s.p.z, .int .i64 s.d, .int .i64 (x : Int)] 40)) o70 (by decide) g71
                       have h26a := Hb26.out.drew.below hBm Hb26.out.lt
                       have h26b := h26a.below hBn h26a.lt
                       have h26 := blk_grown (h26b.alloc (.cells #[.int .i64 s.p.x, .int .i64 s.p.y, .int .i64 s.p.z, .int .i64 s.d, .int .i64 (x : Int)] 40)) o70 (by decide) g71
                       have P71 : (fun W : World => W.cell? ⟨b26, 0, none⟩ = some (.int .i64 s.p.x) ∧ W.cell? ⟨b26, 1, none⟩ = some (.int .i64 s.p.y) ∧ W.cell? ⟨b26, 2, none⟩ = some (.int .i64 s.p.z) ∧ W.cell? ⟨c0 + 1 + 1 + 1 + 1, 0, none⟩ = some (.int .i64 n.x) ∧ W.cell? ⟨c0 + 1 + 1 + 1 + 1, 1, none⟩ = some (.int .i64 n.y) ∧ W.cell? ⟨c0 + 1 + 1 + 1 + 1, 2, none⟩ = some (.int .i64 n.z) ∧ W.cell? ⟨b25, 0, none⟩ = some (.int .i64 p.x) ∧ W.cell? ⟨b25, 1, none⟩ = some (.int .i64 p.y) ∧ W.cell? ⟨b25, 2, none⟩ = some (.int .i64 p.z) ∧ W.cell? ⟨c0, 3, none⟩ = some (.int .i64 a.r) ∧ W.cell? ⟨c0 + 1, 3, none⟩ = some (.int .i64 b.r) ∧ W.cell? ⟨bi, oi + k, none⟩ = some (.int .i64 (x : Int))) w71 := by
                         obtain ⟨g0, g1, g3, g4, gp, gi, gB⟩ := HF2.out w71 B71
                         exact ⟨h26.cell 0, h26.cell 1, h26.cell 2, g4.cell 0, g4.cell 1, g4.cell 2, h25.cell 0, h25.cell 1, h25.cell 2, g0.cell 3, g1.cell 3, HGX.out w71 B71⟩
                       clear o70 h25a h25b h25 h26a h26b h26))
                all_goals (first | go_wp2 | skip)
                go_roundg (nT - (k + 1))
                case rel => exact ⟨k + 1, rfl, by omega, by go_num, by rw [Hsn.out, spCells_snoc]; have e : s.cells = [.int .i64 s.p.x, .int .i64 s.p.y, .int .i64 s.p.z, .int .i64 s.d, .int .i64 (x : Int)] := by { simp only [Sp.cells, Hsi.out] }; rw [e]; exact o71, B71⟩
                case measure => have := Hg.out; omega
          · obtain rfl : k = nT := by omega
            clear Hzero
            have hall : (L.take k).map (mkA a b n) = L.map (mkA a b n) := by rw [← HnT.out, List.take_length]
            have hown := Hown.out
            rw [hall] at hown
            obtain ⟨S, hS⟩ : ∃ S, S = L.map (mkA a b n) := ⟨_, rfl⟩
            have hSl : S.length = k := by rw [hS, List.length_map, HnT.out]
            have hSn : ∀ s ∈ S, Near 67108864 s.p := by
              intro s hs
              rw [hS] at hs
              obtain ⟨j, -, rfl⟩ := List.mem_map.1 hs
              exact hnear.out j
            have hSP := HSP.out
            rw [← hS] at hown hSP
            have HSl := Lib.hid hSl
            have HSn := Lib.hid hSn
            have HSP2 := Lib.hid hSP
            have hk0 : k ≠ 0 := by intro h; exact HfA.out (List.length_eq_zero_iff.1 (by rw [HnT.out, h]))
            have hrd := Rd.of_own hown
            obtain ⟨bs, os, rfl⟩ := hrd.addr hk0
            obtain ⟨w11, hw11⟩ : ∃ v : World, v = wr := ⟨_, rfl⟩
            subst hw11
            have hk100 : k ≤ 100 := by omega
            have HF3 : Hid (∀ W, Below w11.heap.size w11 W → Blk W (c0 + 1 + 1 + 1) 32 [.int .i64 0, .int .i64 0, .int .i64 0, .slice none 0 0] ∧ Blk W (c0 + 1 + 1 + 1 + 1) 26 n.cells ∧ Rd W (Value.slice (some ⟨bs, os, none⟩) k cap) k 5 (spCells S) ∧ Below w.heap.size w W) := Lib.hid fun W hW => by
              obtain ⟨g0, g1, g3, g4, gp, gi, gB⟩ := HF2.out W (HB.out.trans (hW.mono hsr))
              exact ⟨g3, g4, hrd.new hW, gB⟩
            have hc3 : w.heap.size ≤ c0 + 1 + 1 + 1 := by have := Hc0.out; omega
            have hc4 : c0 + 1 + 1 + 1 < w11.heap.size := by obtain ⟨g3, -⟩ := HF3.out w11 (Below.refl _ _); exact g3.lt
            have Hzero : Hid (∀ W : World, (W.ownsRow w11.heap.size 40 5 (.slice none 0 0) ((S.take 0).filter (keepS within)).length (spCells ((S.take 0).filter (keepS within))))) := Lib.hid fun W => World.ownsRow_nil _ _ _ _
            clear hall hown hS hSl hSn hSP hrd HSP hnear HB hsr Hown HF2 HLlt HnT
            have Hkn := Lib.hid hkn
            clear hkn
            go_upto_block 33 with (fail)
            go_loopg [30, 31] k (fun g kv i wx => ∃ j : Nat, g = k - j ∧ j ≤ k ∧ i = .int .i64 (j : Int) ∧ wx.ownsRow w11.heap.size 40 5 kv ((S.take j).filter (keepS within)).length (spCells ((S.take j).filter (keepS within))) ∧ Below w11.heap.size w11 wx)
            case atStart => exact ⟨0, rfl, Nat.zero_le _, rfl, Hzero.out _, Below.refl _ _⟩
            case round =>
              obtain ⟨j, hg', hj, rfl, hown, hB⟩ := hrel
              have Hg' := Lib.hid hg'
              have HB' := Lib.hid hB
              obtain ⟨ao', cap', rfl, -, -, -⟩ := own_clip hown
              have hsr := hB.size
              clear hg' hB
              by_cases hjk : j < k
              · obtain ⟨s, hs⟩ : ∃ s, S[j]? = some s := ⟨_, List.getElem?_eq_getElem (by rw [HSl.out]; exact hjk)⟩
                obtain ⟨g3, g4, gr, gB⟩ := HF3.out wr HB'.out
                obtain ⟨p0, p1, p2, p3, p4⟩ := gr.sp hjk hs
                have hsn := take_filter_snoc (within := within) hs
                have hle : ((S.take j).filter (keepS within)).length ≤ 100 := Nat.le_trans (List.length_filter_le _ _) (by rw [List.length_take]; omega)
                obtain ⟨T, hT⟩ : ∃ T, T = ((S.take j).filter (keepS within)).length := ⟨_, rfl⟩
                rw [← hT] at hown hle ⊢
                have HT := Lib.hid hT
                have hjI : (j : Int) < (k : Int) := by omega
                have Hown := Lib.hid hown
                clear hs g3 g4 gr gB hT hown
                by_cases hd : s.d < -within
                · have hk0' : keepS within s = false := decide_eq_false (by omega)
                  rw [hk0', if_neg (by simp), List.append_nil] at hsn
                  have Hsn := Lib.hid hsn
                  clear hsn hk0'
                  go_wp2
                  go_roundg (k - (j + 1))
                  case rel => exact ⟨j + 1, rfl, by omega, by go_num, by rw [Hsn.out, ← HT.out]; exact Hown.out, HB'.out⟩
                  case measure => have := Hg'.out; omega
                · have hk0' : keepS within s = true := decide_eq_true (by omega)
                  rw [hk0', if_pos rfl] at hsn
                  have Hsn := Lib.hid hsn
                  clear hsn hk0'
                  obtain ⟨i0, hi, hz0, hz1, hz2⟩ := info_parts info40
                  go_wp2_with (at_builtin; refine wpList_append_own _ rfl _ _ 30 rfl w11.heap.size 40 i0 (.agg #[.int .i64 0, .int .i64 0, .int .i64 0, .int .i64 0, .int .i64 0]) 5 40 Try.underlying30 hi hz0 hz1 hz2 rfl (by decide) _ _ _ rfl (Hown.out.alloc _) ⟨wr.heap.size, 0, none⟩ 1 1 [.int .i64 s.p.x, .int .i64 s.p.y, .int .i64 s.p.z, .int .i64 s.d, .int .i64 s.id] rfl rfl (World.news_of_block (cs := #[.int .i64 s.p.x, .int .i64 s.p.y, .int .i64 s.p.z, .int .i64 s.d, .int .i64 s.id]) (t := 40) (fr := (0, 0)) (heap_alloc_new wr _)) (by simp [Value.oneCell']) (by unfold maxLen; omega) (by omega) (by simp; omega) ?_; intro v' w7 hown' hgrow _)
                  have hB7 : Below w11.heap.size w11 w7 := (HB'.out.alloc hsr (.cells (List.toArray s.cells) 40)).grown hgrow (by simp; omega) (fun r hr => ownBlock_ge Hown.out hr)
                  have hown8 : w7.ownsRow w11.heap.size 40 5 v' ((S.take (j + 1)).filter (keepS within)).length (spCells ((S.take (j + 1)).filter (keepS within))) := by
                    rw [Hsn.out, List.length_append, List.length_singleton, ← HT.out, spCells_snoc]
                    exact hown'
                  clear hown' hgrow
                  go_roundg (k - (j + 1))
                  case rel => exact ⟨j + 1, rfl, by omega, by go_num, hown8, hB7⟩
                  case measure => have := Hg'.out; omega
              · obtain rfl : j = k := by omega
                have hall : (S.take j).filter (keepS within) = spotsP a b n within := by rw [HSP2.out, ← HSl.out, List.take_length]
                rw [hall] at hown ⊢
                have hsn : ∀ s ∈ spotsP a b n within, Near 67108864 s.p := by
                  intro s hs
                  rw [HSP2.out] at hs
                  exact HSn.out s (List.mem_filter.1 hs).1
                have hle : (spotsP a b n within).length ≤ 100 := by rw [HSP2.out]; exact Nat.le_trans (List.length_filter_le _ _) (by rw [HSl.out]; exact hk100)
                obtain ⟨g3, g4, gr, gB⟩ := HF3.out wr HB'.out
                obtain ⟨T, hT⟩ : ∃ T, T = (spotsP a b n within).length := ⟨_, rfl⟩
                rw [← hT] at hown hle ⊢
                have HT := Lib.hid hT
                have HR := Lib.hid (four27_any _ T (spotsP a b n within) wr hT.symm (Rd.of_own hown) (by omega) hsn)
                have G3 := Lib.hid g3
                have G4 := Lib.hid g4
                have GB := Lib.hid gB
                have hge : Hid (∀ r, (Value.slice ao' T cap').ownBlock = some r → w11.heap.size ≤ r) := Lib.hid fun r hr => ownBlock_ge hown hr
                clear hall hsn hT g3 g4 gr gB hown
                go_wp2_with fail
                refine HR.out.mono ?_
                rintro e w8 ⟨⟨v, rr, rfl, hF4, hR, hblk⟩, hB8⟩
                obtain ⟨av, cv, rfl, cv1, cv2⟩ := hR.shape
                have h3 := G3.out.below hB8 G3.out.lt
                have h4 := G4.out.below hB8 G4.out.lt
                have x0 : _ = some (Value.int .i64 n.x) := h4.cell 0
                have x1 : _ = some (Value.int .i64 n.y) := h4.cell 1
                have x2 : _ = some (Value.int .i64 n.z) := h4.cell 2
                have z0 : _ = some (Value.int .i64 0) := h3.cell 0
                have z1 : _ = some (Value.int .i64 0) := h3.cell 1
                have z2 : _ = some (Value.int .i64 0) := h3.cell 2
                have z3 : _ = some (Value.slice none 0 0) := h3.cell 3
                have f0 := h3.frozen 0
                have f1 := h3.frozen 1
                have f2 := h3.frozen 2
                have f3 := h3.frozen 3
                have gs := GB.out.size
                have HB8 := Lib.hid (GB.out.trans (hB8.mono gs))
                have HF4 := Lib.hid hF4
                have H3 := Lib.hid h3
                have HRR := Lib.hid hR
                have hl0 := isFour_len hF4
                have Hblk := Lib.hid hblk
                have hwr8 := hB8.size
                clear hF4 hR hblk hB8 h3 h4 HR
                by_cases hr0 : rr.length = 0
                · have hnil := hl0.1 hr0
                  have Hnil := Lib.hid hnil
                  clear hl0 hnil
                  rw [hr0]
                  have Hfin := Lib.hid ((((H3.out.set 0 (.int .i64 0)).set 1 (.int .i64 0)).set 2 (.int .i64 0)).set 3 (.slice none 0 0))
                  have HBf := Lib.hid ((((HB8.out.setCell (p := ⟨c0 + 1 + 1 + 1, 0, none⟩) (by simp only; omega) (.int .i64 0)).setCell (p := ⟨c0 + 1 + 1 + 1, 1, none⟩) (by simp only; omega) (.int .i64 0)).setCell (p := ⟨c0 + 1 + 1 + 1, 2, none⟩) (by simp only; omega) (.int .i64 0)).setCell (p := ⟨c0 + 1 + 1 + 1, 3, none⟩) (by simp only; omega) (.slice none 0 0))
                  go_wp2
                  obtain ⟨w9, hw9⟩ : ∃ w9, ((((w8.setCell ⟨c0 + 1 + 1 + 1, 0, none⟩ (.int .i64 0)).setCell ⟨c0 + 1 + 1 + 1, 1, none⟩ (.int .i64 0)).setCell ⟨c0 + 1 + 1 + 1, 2, none⟩ (.int .i64 0)).setCell ⟨c0 + 1 + 1 + 1, 3, none⟩ (.slice none 0 0)) = w9 := ⟨_, rfl⟩
                  rw [hw9] at Hfin HBf ⊢
                  have r0 : _ = some (Value.int .i64 0) := Hfin.out.cell 0
                  have r1 : _ = some (Value.int .i64 0) := Hfin.out.cell 1
                  have r2 : _ = some (Value.int .i64 0) := Hfin.out.cell 2
                  have r3 : _ = some (Value.slice none 0 0) := Hfin.out.cell 3
                  exact bodyPost_ret (v := .tuple #[patV ⟨0, 0, 0⟩ (.slice none 0 0), .bool false]) (by simp [results, Try.f6, go_sem, r0, r1, r2, r3]) rfl ⟨.inl ⟨Hnil.out, rfl⟩, HBf.out⟩
                · have hnn : spotsP a b n within ≠ [] := fun h => hr0 (hl0.2 h)
                  have Hnn := Lib.hid hnn
                  have hrI : ((rr.length : Int) == 0) = false := by
                    have : ¬ (rr.length : Int) = 0 := by omega
                    simpa using this
                  have hrI2 : ¬ (rr.length : Int) = 0 := by omega
                  clear hl0 hnn
                  have HBf := Lib.hid ((((HB8.out.setCell (p := ⟨c0 + 1 + 1 + 1, 0, none⟩) hc3 (.int .i64 n.x)).setCell (p := ⟨c0 + 1 + 1 + 1, 1, none⟩) hc3 (.int .i64 n.y)).setCell (p := ⟨c0 + 1 + 1 + 1, 2, none⟩) hc3 (.int .i64 n.z)).setCell (p := ⟨c0 + 1 + 1 + 1, 3, none⟩) hc3 (.slice av rr.length cv))
                  have Hfin := Lib.hid ((((H3.out.set 0 (.int .i64 n.x)).set 1 (.int .i64 n.y)).set 2 (.int .i64 n.z)).set 3 (.slice av rr.length cv))
                  have HRF : Hid (Rd ((((w8.setCell ⟨c0 + 1 + 1 + 1, 0, none⟩ (.int .i64 n.x)).setCell ⟨c0 + 1 + 1 + 1, 1, none⟩ (.int .i64 n.y)).setCell ⟨c0 + 1 + 1 + 1, 2, none⟩ (.int .i64 n.z)).setCell ⟨c0 + 1 + 1 + 1, 3, none⟩ (.slice av rr.length cv)) (.slice av rr.length cv) rr.length 5 (spCells rr)) := Lib.hid (by
                    refine HRR.out.same (by simp) fun B hB hlB => ?_
                    have hBt : B ≠ c0 + 1 + 1 + 1 := by
                      rcases Hblk.out B hB with h | h
                      · have := hge.out B h; omega
                      · omega
                    rw [Below.heap_setCell _ _ _ B hBt, Below.heap_setCell _ _ _ B hBt, Below.heap_setCell _ _ _ B hBt, Below.heap_setCell _ _ _ B hBt])
                  go_wp2
                  obtain ⟨w9, hw9⟩ : ∃ w9, ((((w8.setCell ⟨c0 + 1 + 1 + 1, 0, none⟩ (.int .i64 n.x)).setCell ⟨c0 + 1 + 1 + 1, 1, none⟩ (.int .i64 n.y)).setCell ⟨c0 + 1 + 1 + 1, 2, none⟩ (.int .i64 n.z)).setCell ⟨c0 + 1 + 1 + 1, 3, none⟩ (.slice av rr.length cv)) = w9 := ⟨_, rfl⟩
                  rw [hw9] at Hfin HBf HRF ⊢
                  have r0 : _ = some (Value.int .i64 n.x) := Hfin.out.cell 0
                  have r1 : _ = some (Value.int .i64 n.y) := Hfin.out.cell 1
                  have r2 : _ = some (Value.int .i64 n.z) := Hfin.out.cell 2
                  have r3 : _ = some (Value.slice av rr.length cv) := Hfin.out.cell 3
                  exact bodyPost_ret (v := .tuple #[patV n (.slice av rr.length cv), .bool true]) (by simp [results, Try.f6, go_sem, r0, r1, r2, r3]) rfl ⟨.inr ⟨Hnn.out, _, rr, HF4.out, HRF.out, rfl⟩, HBf.out⟩
end Go.Proofs.Ytpbpdgknjbjlcaa
