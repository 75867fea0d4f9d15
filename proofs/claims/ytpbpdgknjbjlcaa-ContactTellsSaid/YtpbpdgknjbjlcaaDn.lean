/- Contacts: the document's second example walked; the statement's walk. -/
import Derived.Test.YtpbpdgknjbjlcaaDm
namespace Go.Proofs.Ytpbpdgknjbjlcaa
open Go.RowKit
set_option maxRecDepth 100000 in
set_option maxHeartbeats 1000000 in
theorem awake4_any (w : World) : Calls Try.prog 4 #[] w fun e w' => e = .returned (.bool true) ∧ Below w.heap.size w w' := by
  obtain ⟨w1, hw1⟩ : ∃ w1, ((((w.alloc (.cells #[.int .i64 0, .int .i64 0, .int .i64 0] 26)).alloc (.cells #[.slice (some ⟨w.heap.size, 0, none⟩) 1 1, .slice none 0 0, .slice none 0 0, .int .i64 3] 24)).alloc (.cells #[.int .i64 4, .int .i64 0, .int .i64 0] 26)).alloc (.cells #[.slice (some ⟨(w.heap.size + 1 + 1), 0, none⟩) 1 1, .slice none 0 0, .slice none 0 0, .int .i64 3] 24)) = w1 := ⟨_, rfl⟩
  have B0 : Below w.heap.size w w1 := by rw [← hw1]; exact ((((Below.refl _ w).alloc (Nat.le_refl _) _).alloc (by simp) _).alloc (by simp; omega) _).alloc (by simp; omega) _
  have hb0 : Blk w1 w.heap.size 26 [.int .i64 0, .int .i64 0, .int .i64 0] := by rw [← hw1]; exact (((Blk.newAt (w := w) rfl 26 [.int .i64 0, .int .i64 0, .int .i64 0]).alloc _).alloc _).alloc _
  have hb1 : Blk w1 (w.heap.size + 1) 24 [.slice (some ⟨w.heap.size, 0, none⟩) 1 1, .slice none 0 0, .slice none 0 0, .int .i64 3] := by rw [← hw1]; exact ((Blk.newAt (w := w.alloc _) (by simp) 24 [.slice (some ⟨w.heap.size, 0, none⟩) 1 1, .slice none 0 0, .slice none 0 0, .int .i64 3]).alloc _).alloc _
  have hb2 : Blk w1 (w.heap.size + 1 + 1) 26 [.int .i64 4, .int .i64 0, .int .i64 0] := by rw [← hw1]; exact (Blk.newAt (w := (w.alloc _).alloc _) (by simp) 26 [.int .i64 4, .int .i64 0, .int .i64 0]).alloc _
  have hb3 : Blk w1 (w.heap.size + 1 + 1 + 1) 24 [.slice (some ⟨(w.heap.size + 1 + 1), 0, none⟩) 1 1, .slice none 0 0, .slice none 0 0, .int .i64 3] := by rw [← hw1]; exact Blk.newAt (w := ((w.alloc _).alloc _).alloc _) (by simp) 24 [.slice (some ⟨(w.heap.size + 1 + 1), 0, none⟩) 1 1, .slice none 0 0, .slice none 0 0, .int .i64 3]
  go_enter Try.func4, Try.ntmps4
  go_upto_region 3 with (fail)
  clear hw1
  obtain ⟨s0, hs0⟩ : ∃ s, s = w.heap.size := ⟨_, rfl⟩
  simp only [← hs0] at hb0 hb1 hb2 hb3 ⊢
  have HF : Hid (∀ W, Below w1.heap.size w1 W → Blk W (s0 + 1) 24 [.slice (some ⟨s0, 0, none⟩) 1 1, .slice none 0 0, .slice none 0 0, .int .i64 3] ∧ Blk W (s0 + 1 + 1 + 1) 24 [.slice (some ⟨(s0 + 1 + 1), 0, none⟩) 1 1, .slice none 0 0, .slice none 0 0, .int .i64 3] ∧ Rd W (.slice (some ⟨s0, 0, none⟩) 1 1) 1 3 (ptCells coA.P) ∧ Rd W (.slice (some ⟨(s0 + 1 + 1), 0, none⟩) 1 1) 1 3 (ptCells coB.P) ∧ Below w.heap.size w W) := Lib.hid fun W hW => by
    exact ⟨hb1.below hW hb1.lt, hb3.below hW hb3.lt, blk_rd (hb0.below hW hb0.lt) rfl (by decide), blk_rd (hb2.below hW hb2.lt) rfl (by decide), B0.trans (hW.mono B0.size)⟩
  have HN : Hid (∀ W, Rd W (.slice none 0 0) 0 3 (ptCells [])) := Lib.hid fun W => Rd.nil W none 0 3 (by decide)
  clear hs0 hb0 hb1 hb2 hb3 B0
  obtain ⟨g1, g3, gp, gq, gB⟩ := HF.out w1 (Below.refl _ _)
  have k0 : _ = some (Value.slice (some ⟨s0, 0, none⟩) 1 1) := g1.cell 0
  have k1 : _ = some (Value.slice none 0 0) := g1.cell 1
  have k2 : _ = some (Value.slice none 0 0) := g1.cell 2
  have k3 : _ = some (Value.int .i64 3) := g1.cell 3
  have i0 : _ = some (Value.slice (some ⟨(s0 + 1 + 1), 0, none⟩) 1 1) := g3.cell 0
  have i1 : _ = some (Value.slice none 0 0) := g3.cell 1
  have i2 : _ = some (Value.slice none 0 0) := g3.cell 2
  have i3 : _ = some (Value.int .i64 3) := g3.cell 3
  have HR : Hid (Calls Try.prog 8 #[corV (.slice (some ⟨s0, 0, none⟩) 1 1) (.slice none 0 0) (.slice none 0 0) 3, corV (.slice (some ⟨(s0 + 1 + 1), 0, none⟩) 1 1) (.slice none 0 0) (.slice none 0 0) 3] w1 fun e w' => e = .returned (.tuple #[apV axU (-2), .bool true]) ∧ Below w1.heap.size w1 w') := Lib.hid (by
    have h := apart8_yes (.slice (some ⟨s0, 0, none⟩) 1 1) (.slice none 0 0) (.slice none 0 0) (.slice (some ⟨(s0 + 1 + 1), 0, none⟩) 1 1) (.slice none 0 0) (.slice none 0 0) coA coB w1 gp (HN.out _) (HN.out _) gq (HN.out _) (HN.out _) coA_may coB_may
    rw [apart_co] at h
    exact h)
  clear g1 g3 gp gq gB
  go_wp2_with fail
  refine HR.out.mono ?_
  rintro e w2 ⟨rfl, hT⟩
  have HX2 := Lib.hid hT
  clear hT
  clear k0 k1 k2 k3 i0 i1 i2 i3 HR
  go_upto_region 4 with (fail)
  change Code.wp _ _ _ _ (w2.alloc (.cells #[.int .i64 1048576, .int .i64 0, .int .i64 0, .int .i64 (-2)] 28))
  obtain ⟨w3, hw3⟩ : ∃ w3, w2.alloc (.cells #[.int .i64 1048576, .int .i64 0, .int .i64 0, .int .i64 (-2)] 28) = w3 := ⟨_, rfl⟩
  have hT : Below w2.heap.size w2 w3 := by rw [← hw3]; exact (Below.refl _ _).alloc (Nat.le_refl _) _
  have h3 : Blk w3 w2.heap.size 28 [.int .i64 1048576, .int .i64 0, .int .i64 0, .int .i64 (-2)] := by rw [← hw3]; exact Blk.newAt (w := w2) rfl 28 [.int .i64 1048576, .int .i64 0, .int .i64 0, .int .i64 (-2)]
  rw [hw3]
  clear hw3
  obtain ⟨t3, ht3⟩ : ∃ v, v = w2.heap.size := ⟨_, rfl⟩
  rw [← ht3] at h3 ⊢
  clear ht3
  have HX3 := Lib.hid (HX2.out.trans (hT.mono HX2.out.size))
  have H3 := Lib.hid h3
  clear hT h3 HX2
  obtain ⟨g1, g3, gp, gq, gB⟩ := HF.out w3 HX3.out
  have k0 : _ = some (Value.slice (some ⟨s0, 0, none⟩) 1 1) := g1.cell 0
  have k1 : _ = some (Value.slice none 0 0) := g1.cell 1
  have k2 : _ = some (Value.slice none 0 0) := g1.cell 2
  have k3 : _ = some (Value.int .i64 3) := g1.cell 3
  have i0 : _ = some (Value.slice (some ⟨(s0 + 1 + 1), 0, none⟩) 1 1) := g3.cell 0
  have i1 : _ = some (Value.slice none 0 0) := g3.cell 1
  have i2 : _ = some (Value.slice none 0 0) := g3.cell 2
  have i3 : _ = some (Value.int .i64 3) := g3.cell 3
  have a0 : _ = some (Value.int .i64 1048576) := H3.out.cell 0
  have a1 : _ = some (Value.int .i64 0) := H3.out.cell 1
  have a2 : _ = some (Value.int .i64 0) := H3.out.cell 2
  have a3 : _ = some (Value.int .i64 (-2)) := H3.out.cell 3
  have HR : Hid (Calls Try.prog 5 #[corV (.slice (some ⟨s0, 0, none⟩) 1 1) (.slice none 0 0) (.slice none 0 0) 3, corV (.slice (some ⟨(s0 + 1 + 1), 0, none⟩) 1 1) (.slice none 0 0) (.slice none 0 0) 3, apV axU (-2), .int .i64 0] w3 fun e w' => (∃ v, Rd w' v 1 5 (spCells [⟨⟨1, 0, 0⟩, 2, 256⟩]) ∧ e = .returned (.tuple #[patV axU v, .bool true])) ∧ Below w3.heap.size w3 w') := Lib.hid (by
    refine (touch5_any (.slice (some ⟨s0, 0, none⟩) 1 1) (.slice none 0 0) (.slice none 0 0) (.slice (some ⟨(s0 + 1 + 1), 0, none⟩) 1 1) (.slice none 0 0) (.slice none 0 0) coA coB axU (-2) 0 w3 gp (HN.out _) (HN.out _) gq (HN.out _) (HN.out _) (by decide)).mono ?_
    rintro e w' ⟨⟨p, v, ok, l, h, hR, rfl⟩, hB⟩
    obtain ⟨rfl, rfl, rfl⟩ := tout_co h
    exact ⟨⟨v, hR, rfl⟩, hB⟩)
  clear g1 g3 gp gq gB
  go_wp2_with fail
  refine HR.out.mono ?_
  rintro e w4 ⟨⟨v, hR, rfl⟩, hT⟩
  obtain ⟨va, vc, rfl, -, -⟩ := hR.shape
  have HX4 := Lib.hid (HX3.out.trans (hT.mono HX3.out.size))
  have H34 := Lib.hid (H3.out.below hT H3.out.lt)
  have HV4 := Lib.hid hR
  clear hT hR HX3 H3 a0 a1 a2 a3
  clear k0 k1 k2 k3 i0 i1 i2 i3 HR
  go_upto_region 5 with (fail)
  change Code.wp _ _ _ _ (w4.alloc (.cells #[.int .i64 1048576, .int .i64 0, .int .i64 0, .slice va 1 vc] 32))
  obtain ⟨w5, hw5⟩ : ∃ w5, w4.alloc (.cells #[.int .i64 1048576, .int .i64 0, .int .i64 0, .slice va 1 vc] 32) = w5 := ⟨_, rfl⟩
  have hT : Below w4.heap.size w4 w5 := by rw [← hw5]; exact (Below.refl _ _).alloc (Nat.le_refl _) _
  have h5 : Blk w5 w4.heap.size 32 [.int .i64 1048576, .int .i64 0, .int .i64 0, .slice va 1 vc] := by rw [← hw5]; exact Blk.newAt (w := w4) rfl 32 [.int .i64 1048576, .int .i64 0, .int .i64 0, .slice va 1 vc]
  rw [hw5]
  clear hw5
  obtain ⟨t5, ht5⟩ : ∃ v, v = w4.heap.size := ⟨_, rfl⟩
  rw [← ht5] at h5 ⊢
  clear ht5
  have HX5 := Lib.hid (HX4.out.trans (hT.mono HX4.out.size))
  have H35 := Lib.hid (H34.out.below hT H34.out.lt)
  have HV5 := Lib.hid (HV4.out.new hT)
  have H5 := Lib.hid h5
  clear hT h5 HX4 H34 HV4
  obtain ⟨g1, g3, gp, gq, gB⟩ := HF.out w5 HX5.out
  have k0 : _ = some (Value.slice (some ⟨s0, 0, none⟩) 1 1) := g1.cell 0
  have k1 : _ = some (Value.slice none 0 0) := g1.cell 1
  have k2 : _ = some (Value.slice none 0 0) := g1.cell 2
  have k3 : _ = some (Value.int .i64 3) := g1.cell 3
  have i0 : _ = some (Value.slice (some ⟨(s0 + 1 + 1), 0, none⟩) 1 1) := g3.cell 0
  have i1 : _ = some (Value.slice none 0 0) := g3.cell 1
  have i2 : _ = some (Value.slice none 0 0) := g3.cell 2
  have i3 : _ = some (Value.int .i64 3) := g3.cell 3
  have a0 : _ = some (Value.int .i64 1048576) := H35.out.cell 0
  have a1 : _ = some (Value.int .i64 0) := H35.out.cell 1
  have a2 : _ = some (Value.int .i64 0) := H35.out.cell 2
  have HR : Hid (Calls Try.prog 5 #[corV (.slice (some ⟨s0, 0, none⟩) 1 1) (.slice none 0 0) (.slice none 0 0) 3, corV (.slice (some ⟨(s0 + 1 + 1), 0, none⟩) 1 1) (.slice none 0 0) (.slice none 0 0) 3, apV axU 1, .int .i64 0] w5 fun e w' => e = .returned (.tuple #[patV ⟨0, 0, 0⟩ (.slice none 0 0), .bool false]) ∧ Below w5.heap.size w5 w') := Lib.hid (touch5_no (.slice (some ⟨s0, 0, none⟩) 1 1) (.slice none 0 0) (.slice none 0 0) (.slice (some ⟨(s0 + 1 + 1), 0, none⟩) 1 1) (.slice none 0 0) (.slice none 0 0) coA coB axU 1 0 w5 gp (HN.out _) (HN.out _) gq (HN.out _) (HN.out _) no_co)
  clear g1 g3 gp gq gB
  go_wp2_with fail
  refine HR.out.mono ?_
  rintro e w6 ⟨rfl, hT⟩
  have hT2 := hT.alloc hT.size (.cells #[.int .i64 0, .int .i64 0, .int .i64 0, .slice none 0 0] 32)
  have HX6 := Lib.hid (HX5.out.trans (hT2.mono HX5.out.size))
  have HV6 := Lib.hid (HV5.out.new hT2)
  have H6 := Lib.hid (H5.out.below hT2 H5.out.lt)
  clear hT hT2 HX5 HV5 H5 H35 a0 a1 a2
  clear k0 k1 k2 k3 i0 i1 i2 i3 HR
  go_upto_region 6 with (fail)
  obtain ⟨w7, hw7⟩ : ∃ w7, w6.alloc (.cells #[.int .i64 0, .int .i64 0, .int .i64 0, .slice none 0 0] 32) = w7 := ⟨_, rfl⟩
  rw [hw7] at HX6 HV6 H6
  change Code.wp _ _ _ _ (w6.alloc (.cells #[.int .i64 0, .int .i64 0, .int .i64 0, .slice none 0 0] 32))
  rw [hw7]
  clear hw7
  have a0 : _ = some (Value.int .i64 1048576) := H6.out.cell 0
  have a1 : _ = some (Value.int .i64 0) := H6.out.cell 1
  have a2 : _ = some (Value.int .i64 0) := H6.out.cell 2
  have a3 : _ = some (Value.slice va 1 vc) := H6.out.cell 3
  have hS : Below w7.heap.size w7 (w7.alloc (.cells #[.int .i64 1, .int .i64 0, .int .i64 0, .int .i64 2, .int .i64 256] 40)) := (Below.refl _ w7).alloc (Nat.le_refl _) _
  have HS : Hid (Calls Try.prog 7 #[.agg #[.int .i64 axU.x, .int .i64 axU.y, .int .i64 axU.z, .slice va 1 vc], .agg #[.int .i64 axU.x, .int .i64 axU.y, .int .i64 axU.z, .slice (some ⟨w7.heap.size, 0, none⟩) 1 1]] (w7.alloc (.cells #[.int .i64 1, .int .i64 0, .int .i64 0, .int .i64 2, .int .i64 256] 40)) fun e w' => e = .returned (.bool true) ∧ Below w.heap.size w w') := Lib.hid (by
    refine (same7_like axU (.slice va 1 vc) (.slice (some ⟨w7.heap.size, 0, none⟩) 1 1) 1 [⟨⟨1, 0, 0⟩, 2, 256⟩] _ rfl (HV6.out.new hS) (blk_rd (Blk.new w7 40 [.int .i64 1, .int .i64 0, .int .i64 0, .int .i64 2, .int .i64 256]) rfl (by decide))).mono ?_
    rintro e w' ⟨rfl, hB⟩
    obtain ⟨-, -, -, -, gB⟩ := HF.out w7 HX6.out
    exact ⟨rfl, gB.trans ((hS.trans (hB.mono hS.size)).mono gB.size)⟩)
  clear hS
  go_wp2_with fail
  refine HS.out.mono ?_
  rintro e w9 ⟨rfl, hB9⟩
  have HB9 := Lib.hid hB9
  clear hB9 HS a0 a1 a2 a3
  go_wp2
  exact bodyPost_ret (v := .bool true) (by simp [results, Try.f4, go_sem]) rfl ⟨rfl, HB9.out⟩
set_option maxRecDepth 100000 in
set_option maxHeartbeats 1000000 in
theorem tells3_any (pva ava eva pvb avb evb : Value) (a b : Cor) (n : Pt) (gap within : Int) (w : World) (pa : Rd w pva a.P.length 3 (ptCells a.P)) (aa : Rd w ava a.A.length 3 (ptCells a.A)) (ea : Rd w eva a.E.length 3 (ptCells a.E)) (pb : Rd w pvb b.P.length 3 (ptCells b.P)) (ab : Rd w avb b.A.length 3 (ptCells b.A)) (eb : Rd w evb b.E.length 3 (ptCells b.E)) :
    Calls Try.prog 3 #[corV pva ava eva a.r, corV pvb avb evb b.r, apV n gap, .int .i64 within] w fun e w' => e = .returned (.bool true) ∧ Below w.heap.size w w' := by
  obtain ⟨pa0, pa1, rfl, ca1, ca2⟩ := pa.shape
  obtain ⟨aa0, aa1, rfl, ca3, ca4⟩ := aa.shape
  obtain ⟨ea0, ea1, rfl, ca5, ca6⟩ := ea.shape
  obtain ⟨pb0, pb1, rfl, cb1, cb2⟩ := pb.shape
  obtain ⟨ab0, ab1, rfl, cb3, cb4⟩ := ab.shape
  obtain ⟨eb0, eb1, rfl, cb5, cb6⟩ := eb.shape
  obtain ⟨w1, hw1⟩ : ∃ w1, (((w.alloc (.cells [(Value.slice pa0 a.P.length pa1), (Value.slice aa0 a.A.length aa1), (Value.slice ea0 a.E.length ea1), .int .i64 a.r].toArray 24)).alloc (.cells [(Value.slice pb0 b.P.length pb1), (Value.slice ab0 b.A.length ab1), (Value.slice eb0 b.E.length eb1), .int .i64 b.r].toArray 24)).alloc (.cells [.int .i64 n.x, .int .i64 n.y, .int .i64 n.z, .int .i64 gap].toArray 28)) = w1 := ⟨_, rfl⟩
  have B0 : Below w.heap.size w w1 := by rw [← hw1]; exact (((Below.refl _ w).alloc (Nat.le_refl _) _).alloc (by simp) _).alloc (by simp; omega) _
  have hb0 : Blk w1 w.heap.size 24 [(Value.slice pa0 a.P.length pa1), (Value.slice aa0 a.A.length aa1), (Value.slice ea0 a.E.length ea1), .int .i64 a.r] := by rw [← hw1]; exact ((Blk.newAt (w := w) rfl 24 [(Value.slice pa0 a.P.length pa1), (Value.slice aa0 a.A.length aa1), (Value.slice ea0 a.E.length ea1), .int .i64 a.r]).alloc _).alloc _
  have hb1 : Blk w1 (w.heap.size + 1) 24 [(Value.slice pb0 b.P.length pb1), (Value.slice ab0 b.A.length ab1), (Value.slice eb0 b.E.length eb1), .int .i64 b.r] := by rw [← hw1]; exact (Blk.newAt (w := w.alloc _) (by simp) 24 [(Value.slice pb0 b.P.length pb1), (Value.slice ab0 b.A.length ab1), (Value.slice eb0 b.E.length eb1), .int .i64 b.r]).alloc _
  have hb2 : Blk w1 (w.heap.size + 1 + 1) 28 [.int .i64 n.x, .int .i64 n.y, .int .i64 n.z, .int .i64 gap] := by rw [← hw1]; exact Blk.newAt (w := (w.alloc _).alloc _) (by simp) 28 [.int .i64 n.x, .int .i64 n.y, .int .i64 n.z, .int .i64 gap]
  obtain ⟨s0, hs0⟩ : ∃ s, s = w.heap.size := ⟨_, rfl⟩
  have HF : Hid (∀ W, Below w1.heap.size w1 W → Blk W s0 24 [(Value.slice pa0 a.P.length pa1), (Value.slice aa0 a.A.length aa1), (Value.slice ea0 a.E.length ea1), .int .i64 a.r] ∧ Blk W (s0 + 1) 24 [(Value.slice pb0 b.P.length pb1), (Value.slice ab0 b.A.length ab1), (Value.slice eb0 b.E.length eb1), .int .i64 b.r] ∧ Blk W (s0 + 1 + 1) 28 [.int .i64 n.x, .int .i64 n.y, .int .i64 n.z, .int .i64 gap] ∧ Below w.heap.size w W) := Lib.hid fun W hW => by
    rw [hs0]
    exact ⟨hb0.below hW hb0.lt, hb1.below hW hb1.lt, hb2.below hW hb2.lt, B0.trans (hW.mono B0.size)⟩
  have HT5 : Hid (∀ (u : Int) W, -1099511627776 < u ∧ u < 1099511627776 → Below w.heap.size w W → Calls Try.prog 5 #[corV (Value.slice pa0 a.P.length pa1) (Value.slice aa0 a.A.length aa1) (Value.slice ea0 a.E.length ea1) a.r, corV (Value.slice pb0 b.P.length pb1) (Value.slice ab0 b.A.length ab1) (Value.slice eb0 b.E.length eb1) b.r, apV n gap, .int .i64 u] W fun e w' => (∃ p v ok l, TOut a b n gap u p ok l ∧ Rd w' v l.length 5 (spCells l) ∧ e = .returned (.tuple #[patV p v, .bool ok])) ∧ Below W.heap.size W w') := Lib.hid fun u W hu hW => touch5_any (Value.slice pa0 a.P.length pa1) (Value.slice aa0 a.A.length aa1) (Value.slice ea0 a.E.length ea1) (Value.slice pb0 b.P.length pb1) (Value.slice ab0 b.A.length ab1) (Value.slice eb0 b.E.length eb1) a b n gap u W (pa.new hW) (aa.new hW) (ea.new hW) (pb.new hW) (ab.new hW) (eb.new hW) hu
  have HT6 : Hid (∀ (u : Int) W, -1099511627776 < u ∧ u < 1099511627776 → Below w.heap.size w W → Calls Try.prog 6 #[corV (Value.slice pa0 a.P.length pa1) (Value.slice aa0 a.A.length aa1) (Value.slice ea0 a.E.length ea1) a.r, corV (Value.slice pb0 b.P.length pb1) (Value.slice ab0 b.A.length ab1) (Value.slice eb0 b.E.length eb1) b.r, apV n gap, .int .i64 u] W fun e w' => (∃ p v ok l, TOut a b n gap u p ok l ∧ Rd w' v l.length 5 (spCells l) ∧ e = .returned (.tuple #[patV p v, .bool ok])) ∧ Below W.heap.size W w') := Lib.hid fun u W hu hW => touch6_any (Value.slice pa0 a.P.length pa1) (Value.slice aa0 a.A.length aa1) (Value.slice ea0 a.E.length ea1) (Value.slice pb0 b.P.length pb1) (Value.slice ab0 b.A.length ab1) (Value.slice eb0 b.E.length eb1) a b n gap u W (pa.new hW) (aa.new hW) (ea.new hW) (pb.new hW) (ab.new hW) (eb.new hW) hu
  have HA4 : Hid (Calls Try.prog 4 #[] w1 fun e w' => e = .returned (.bool true) ∧ Below w1.heap.size w1 w') := Lib.hid (awake4_any w1)
  clear pa aa ea pb ab eb hb0 hb1 hb2 B0
  go_enter Try.func3, Try.ntmps3
  go_upto_region 1 with (fail)
  clear hw1
  simp only [← hs0]
  clear hs0
  go_wp2_with fail
  refine HA4.out.mono ?_
  rintro e w2 ⟨rfl, hT⟩
  have HX2 := Lib.hid hT
  clear hT HA4
  obtain ⟨g0, g1, g2, gB⟩ := HF.out w2 HX2.out
  have k0 : _ = some ((Value.slice pa0 a.P.length pa1)) := g0.cell 0
  have k1 : _ = some ((Value.slice aa0 a.A.length aa1)) := g0.cell 1
  have k2 : _ = some ((Value.slice ea0 a.E.length ea1)) := g0.cell 2
  have k3 : _ = some (Value.int .i64 a.r) := g0.cell 3
  have i0 : _ = some ((Value.slice pb0 b.P.length pb1)) := g1.cell 0
  have i1 : _ = some ((Value.slice ab0 b.A.length ab1)) := g1.cell 1
  have i2 : _ = some ((Value.slice eb0 b.E.length eb1)) := g1.cell 2
  have i3 : _ = some (Value.int .i64 b.r) := g1.cell 3
  have x0 : _ = some (Value.int .i64 n.x) := g2.cell 0
  have x1 : _ = some (Value.int .i64 n.y) := g2.cell 1
  have x2 : _ = some (Value.int .i64 n.z) := g2.cell 2
  have x3 : _ = some (Value.int .i64 gap) := g2.cell 3
  have GB := Lib.hid gB
  clear g0 g1 g2 gB
  obtain ⟨u, hu⟩ : ∃ u, u = within.tmod 1099511627776 := ⟨_, rfl⟩
  have hu1 : -1099511627776 < u ∧ u < 1099511627776 := by
    rw [hu]
    have h1 := Int.tmod_lt_of_pos within (show (0 : Int) < 1099511627776 by decide)
    have h2 := Int.lt_tmod_of_pos within (show (0 : Int) < 1099511627776 by decide)
    omega
  have Hu1 := Lib.hid hu1
  have HR := Lib.hid (HT5.out u w2 hu1 GB.out)
  have Hu := Lib.hid hu
  clear hu hu1
  obtain ⟨S1, hS1⟩ : ∃ v, IntKind.i64.wrap ((a.P.length : Int) + (b.P.length : Int)) = v := ⟨_, rfl⟩
  obtain ⟨S2, hS2⟩ : ∃ v, IntKind.i64.wrap ((a.A.length : Int) + (b.A.length : Int)) = v := ⟨_, rfl⟩
  obtain ⟨S3, hS3⟩ : ∃ v, IntKind.i64.wrap (S2 + (a.E.length : Int)) = v := ⟨_, rfl⟩
  obtain ⟨S4, hS4⟩ : ∃ v, IntKind.i64.wrap (S3 + (b.E.length : Int)) = v := ⟨_, rfl⟩
  by_cases h80 : 80 < S1
  · clear HR HT5 HT6
    go_wp2
    exact bodyPost_ret (v := .bool true) (by simp [results, Try.f3, go_sem]) rfl ⟨rfl, GB.out⟩
  · by_cases h400 : 400 < S4
    · clear HR HT5 HT6
      go_wp2
      exact bodyPost_ret (v := .bool true) (by simp [results, Try.f3, go_sem]) rfl ⟨rfl, GB.out⟩
    · go_upto_region 5 with (fail)
      rw [← Hu.out]
      clear hS1 hS2 hS3 hS4 h80 h400
      go_wp2_with fail
      refine HR.out.mono ?_
      rintro e w3 ⟨⟨p, v, ok, l, hO, hR, rfl⟩, hT⟩
      obtain ⟨va, vc, rfl, -, -⟩ := hR.shape
      have hT2 := hT.alloc hT.size (.cells #[.int .i64 p.x, .int .i64 p.y, .int .i64 p.z, .slice va l.length vc] 32)
      have hP := Blk.newAt (w := w3) rfl 32 [.int .i64 p.x, .int .i64 p.y, .int .i64 p.z, .slice va l.length vc]
      have HX3 := Lib.hid (HX2.out.trans (hT2.mono HX2.out.size))
      have HV := Lib.hid (hR.new ((Below.refl w3.heap.size w3).alloc (Nat.le_refl _) (.cells #[.int .i64 p.x, .int .i64 p.y, .int .i64 p.z, .slice va l.length vc] 32)))
      have HP := Lib.hid hP
      have HO := Lib.hid hO
      clear hT hT2 hP hR hO HX2 HR k0 k1 k2 k3 i0 i1 i2 i3 x0 x1 x2 x3
      go_upto_region 6 with (fail)
      change Code.wp _ _ _ _ (w3.alloc (.cells #[.int .i64 p.x, .int .i64 p.y, .int .i64 p.z, .slice va l.length vc] 32))
      obtain ⟨w4, hw4⟩ : ∃ w4, w3.alloc (.cells #[.int .i64 p.x, .int .i64 p.y, .int .i64 p.z, .slice va l.length vc] 32) = w4 := ⟨_, rfl⟩
      have hw4' : w3.alloc (.cells [.int .i64 p.x, .int .i64 p.y, .int .i64 p.z, .slice va l.length vc].toArray 32) = w4 := hw4
      rw [hw4] at HX3 HV ⊢
      rw [hw4'] at HP
      clear hw4 hw4'
      obtain ⟨t3, ht3⟩ : ∃ v, v = w3.heap.size := ⟨_, rfl⟩
      rw [← ht3] at HP ⊢
      clear ht3
      obtain ⟨g0, g1, g2, gB⟩ := HF.out w4 HX3.out
      have k0 : _ = some ((Value.slice pa0 a.P.length pa1)) := g0.cell 0
      have k1 : _ = some ((Value.slice aa0 a.A.length aa1)) := g0.cell 1
      have k2 : _ = some ((Value.slice ea0 a.E.length ea1)) := g0.cell 2
      have k3 : _ = some (Value.int .i64 a.r) := g0.cell 3
      have i0 : _ = some ((Value.slice pb0 b.P.length pb1)) := g1.cell 0
      have i1 : _ = some ((Value.slice ab0 b.A.length ab1)) := g1.cell 1
      have i2 : _ = some ((Value.slice eb0 b.E.length eb1)) := g1.cell 2
      have i3 : _ = some (Value.int .i64 b.r) := g1.cell 3
      have x0 : _ = some (Value.int .i64 n.x) := g2.cell 0
      have x1 : _ = some (Value.int .i64 n.y) := g2.cell 1
      have x2 : _ = some (Value.int .i64 n.z) := g2.cell 2
      have x3 : _ = some (Value.int .i64 gap) := g2.cell 3
      have HR := Lib.hid (HT6.out u w4 Hu1.out gB)
      clear g0 g1 g2 gB
      go_wp2_with fail
      refine HR.out.mono ?_
      rintro e w5 ⟨⟨q, v, is, m, hO, hR, rfl⟩, hT⟩
      obtain ⟨rfl, rfl, rfl⟩ := tout_one HO.out hO
      obtain ⟨vb, vd, rfl, -, -⟩ := hR.shape
      have hT2 := hT.alloc hT.size (.cells #[.int .i64 p.x, .int .i64 p.y, .int .i64 p.z, .slice vb l.length vd] 32)
      have hP := Blk.newAt (w := w5) rfl 32 [.int .i64 p.x, .int .i64 p.y, .int .i64 p.z, .slice vb l.length vd]
      have HX5 := Lib.hid (HX3.out.trans (hT2.mono HX3.out.size))
      have HV5 := Lib.hid (HV.out.new hT2)
      have HP5 := Lib.hid (HP.out.below hT2 HP.out.lt)
      have HU5 := Lib.hid (hR.new ((Below.refl w5.heap.size w5).alloc (Nat.le_refl _) (.cells #[.int .i64 p.x, .int .i64 p.y, .int .i64 p.z, .slice vb l.length vd] 32)))
      have HQ5 := Lib.hid hP
      clear hT hT2 hP hR hO HX3 HV HP HR HO k0 k1 k2 k3 i0 i1 i2 i3 x0 x1 x2 x3
      go_upto_region 7 with (fail)
      change Code.wp _ _ _ _ (w5.alloc (.cells #[.int .i64 p.x, .int .i64 p.y, .int .i64 p.z, .slice vb l.length vd] 32))
      obtain ⟨w6, hw6⟩ : ∃ w6, w5.alloc (.cells #[.int .i64 p.x, .int .i64 p.y, .int .i64 p.z, .slice vb l.length vd] 32) = w6 := ⟨_, rfl⟩
      have hw6' : w5.alloc (.cells [.int .i64 p.x, .int .i64 p.y, .int .i64 p.z, .slice vb l.length vd].toArray 32) = w6 := hw6
      rw [hw6] at HX5 HV5 HP5 HU5 ⊢
      rw [hw6'] at HQ5
      clear hw6 hw6'
      obtain ⟨t5, ht5⟩ : ∃ v, v = w5.heap.size := ⟨_, rfl⟩
      rw [← ht5] at HQ5 ⊢
      clear ht5
      have k0 : _ = some (Value.int .i64 p.x) := HP5.out.cell 0
      have k1 : _ = some (Value.int .i64 p.y) := HP5.out.cell 1
      have k2 : _ = some (Value.int .i64 p.z) := HP5.out.cell 2
      have k3 : _ = some (Value.slice va l.length vc) := HP5.out.cell 3
      have i0 : _ = some (Value.int .i64 p.x) := HQ5.out.cell 0
      have i1 : _ = some (Value.int .i64 p.y) := HQ5.out.cell 1
      have i2 : _ = some (Value.int .i64 p.z) := HQ5.out.cell 2
      have i3 : _ = some (Value.slice vb l.length vd) := HQ5.out.cell 3
      have HS := Lib.hid (same7_like p (.slice va l.length vc) (.slice vb l.length vd) l.length l w6 rfl HV5.out HU5.out)
      obtain ⟨g0, g1, g2, gB⟩ := HF.out w6 HX5.out
      have GB6 := Lib.hid gB
      clear g0 g1 g2 gB
      have hoo : (ok == ok) = true := by cases ok <;> rfl
      go_wp2_with fail
      refine HS.out.mono ?_
      rintro e w9 ⟨rfl, hB9⟩
      have HB9 := Lib.hid (GB6.out.trans (hB9.mono GB6.out.size))
      clear hB9 HS
      go_wp2
      exact bodyPost_ret (v := .bool true) (by simp [results, Try.f3, go_sem]) rfl ⟨rfl, HB9.out⟩
end Go.Proofs.Ytpbpdgknjbjlcaa
