/- Contacts: how two are told apart. -/
import Derived.Test.YtpbpdgknjbjlcaaDb
namespace Go.Proofs.Ytpbpdgknjbjlcaa
open Go.RowKit
attribute [local go_sem] Oper.semAt_some
structure ApSt where
  ax : Pt
  gap : Int
  first : Bool
noncomputable def stepA (a b : Cor) (st : ApSt) (n : Pt) : ApSt :=
  if (lenP n).2 then
    let q := (lenP n).1
    let st1 : ApSt := if st.first || decide (st.gap < thereP a b q) then ⟨q, thereP a b q, false⟩ else ⟨st.ax, st.gap, false⟩
    if st1.gap < backP a b q then ⟨subP ⟨0, 0, 0⟩ q, backP a b q, false⟩ else st1
  else st
noncomputable def apartP (a b : Cor) : ApSt := (waysP a b).foldl (stepA a b) ⟨⟨0, 0, 1048576⟩, -a.r - b.r, true⟩
abbrev apV (p : Pt) (g : Int) : Value := .agg #[.int .i64 p.x, .int .i64 p.y, .int .i64 p.z, .int .i64 g]
set_option maxRecDepth 100000 in
theorem apart8_no (pva ava eva pvb avb evb : Value) (a b : Cor) (w : World) (pa : Rd w pva a.P.length 3 (ptCells a.P)) (aa : Rd w ava a.A.length 3 (ptCells a.A)) (ea : Rd w eva a.E.length 3 (ptCells a.E)) (pb : Rd w pvb b.P.length 3 (ptCells b.P)) (ab : Rd w avb b.A.length 3 (ptCells b.A)) (eb : Rd w evb b.E.length 3 (ptCells b.E)) (hm : (mayB a && mayB b) = false) :
    Calls Try.prog 8 #[corV pva ava eva a.r, corV pvb avb evb b.r] w fun e w' => (∃ p g, e = .returned (.tuple #[apV p g, .bool false])) ∧ Below w.heap.size w w' := by
  have HA : Hid (∀ W, Below w.heap.size w W → Calls Try.prog 28 #[corV pva ava eva a.r] W fun e W' => e = .returned (.bool (mayB a)) ∧ Below W.heap.size W W') := Lib.hid fun W hW => may28_any pva ava eva a W (pa.new hW) (aa.new hW) (ea.new hW)
  have HB : Hid (∀ W, Below w.heap.size w W → Calls Try.prog 28 #[corV pvb avb evb b.r] W fun e W' => e = .returned (.bool (mayB b)) ∧ Below W.heap.size W W') := Lib.hid fun W hW => may28_any pvb avb evb b W (pb.new hW) (ab.new hW) (eb.new hW)
  have B0 : Below w.heap.size w (((w.alloc (.cells [pva, ava, eva, .int .i64 a.r].toArray 24)).alloc (.cells [pvb, avb, evb, .int .i64 b.r].toArray 24)).alloc (.cells [.int .i64 0, .int .i64 0, .int .i64 0, .int .i64 0].toArray 28)) := (((Below.refl _ w).alloc (Nat.le_refl _) _).alloc (by simp) _).alloc (by simp; omega) _
  have hb0 := ((Blk.newAt (w := w) (b := w.heap.size) rfl 24 [pva, ava, eva, .int .i64 a.r]).alloc (.cells [pvb, avb, evb, .int .i64 b.r].toArray 24)).alloc (.cells [.int .i64 0, .int .i64 0, .int .i64 0, .int .i64 0].toArray 28)
  have hb1 := (Blk.newAt (w := w.alloc (.cells [pva, ava, eva, .int .i64 a.r].toArray 24)) (b := w.heap.size + 1) (by simp) 24 [pvb, avb, evb, .int .i64 b.r]).alloc (.cells [.int .i64 0, .int .i64 0, .int .i64 0, .int .i64 0].toArray 28)
  have hb2 := Blk.newAt (w := (w.alloc (.cells [pva, ava, eva, .int .i64 a.r].toArray 24)).alloc (.cells [pvb, avb, evb, .int .i64 b.r].toArray 24)) (b := w.heap.size + 1 + 1) (by simp) 28 [.int .i64 0, .int .i64 0, .int .i64 0, .int .i64 0]
  clear pa aa ea pb ab eb
  go_enter Try.func8, Try.ntmps8
  go_upto_region 1 with (fail)
  obtain ⟨w1, hw1⟩ : ∃ w1, (((w.alloc (.cells [pva, ava, eva, .int .i64 a.r].toArray 24)).alloc (.cells [pvb, avb, evb, .int .i64 b.r].toArray 24)).alloc (.cells [.int .i64 0, .int .i64 0, .int .i64 0, .int .i64 0].toArray 28)) = w1 := ⟨_, rfl⟩
  change Code.wp _ _ _ _ (((w.alloc (.cells [pva, ava, eva, .int .i64 a.r].toArray 24)).alloc (.cells [pvb, avb, evb, .int .i64 b.r].toArray 24)).alloc (.cells [.int .i64 0, .int .i64 0, .int .i64 0, .int .i64 0].toArray 28))
  rw [hw1] at B0 hb0 hb1 hb2 ⊢
  clear hw1
  obtain ⟨c0, hc0⟩ : ∃ c, c = w.heap.size := ⟨_, rfl⟩
  simp only [← hc0] at hb0 hb1 hb2 ⊢
  have Hc0 := Lib.hid hc0
  have HB1 := Lib.hid B0
  have hs1 := B0.size
  have k0 : _ = some pva := hb0.cell 0
  have k1 : _ = some ava := hb0.cell 1
  have k2 : _ = some eva := hb0.cell 2
  have k3 : _ = some (Value.int .i64 a.r) := hb0.cell 3
  have Hb1 := Lib.hid hb1
  have Hb2 := Lib.hid hb2
  clear hc0 B0 hb0 hb1 hb2
  go_wp2_with fail
  refine (HA.out w1 HB1.out).mono ?_
  rintro e w2 ⟨rfl, hB2⟩
  have HB2 := Lib.hid (HB1.out.trans (hB2.mono hs1))
  have hs2 := HB2.out.size
  have hb1 := Hb1.out.below hB2 Hb1.out.lt
  have hb2 := Hb2.out.below hB2 Hb2.out.lt
  clear k0 k1 k2 k3 hB2 Hb1 Hb2
  have hc0 := Hc0.out
  cases hma : mayB a with
  | false =>
    have z0 : _ = some (Value.int .i64 0) := hb2.cell 0
    have z1 : _ = some (Value.int .i64 0) := hb2.cell 1
    have z2 : _ = some (Value.int .i64 0) := hb2.cell 2
    have z3 : _ = some (Value.int .i64 0) := hb2.cell 3
    have f0 := hb2.frozen 0
    have f1 := hb2.frozen 1
    have f2 := hb2.frozen 2
    have f3 := hb2.frozen 3
    have Hfin := Lib.hid ((((hb2.set 0 (.int .i64 0)).set 1 (.int .i64 0)).set 2 (.int .i64 0)).set 3 (.int .i64 0))
    have HBf := Lib.hid ((((HB2.out.setCell (p := ⟨c0 + 1 + 1, 0, none⟩) (by simp only; omega) (.int .i64 0)).setCell (p := ⟨c0 + 1 + 1, 1, none⟩) (by simp only; omega) (.int .i64 0)).setCell (p := ⟨c0 + 1 + 1, 2, none⟩) (by simp only; omega) (.int .i64 0)).setCell (p := ⟨c0 + 1 + 1, 3, none⟩) (by simp only; omega) (.int .i64 0))
    clear hb1 hb2 hma hc0
    go_wp2
    obtain ⟨w9, hw9⟩ : ∃ w9, (((w2.setCell ⟨c0 + 1 + 1, 0, none⟩ (.int .i64 0)).setCell ⟨c0 + 1 + 1, 1, none⟩ (.int .i64 0)).setCell ⟨c0 + 1 + 1, 2, none⟩ (.int .i64 0)).setCell ⟨c0 + 1 + 1, 3, none⟩ (.int .i64 0) = w9 := ⟨_, rfl⟩
    rw [hw9] at Hfin HBf ⊢
    have r0 : _ = some (Value.int .i64 0) := Hfin.out.cell 0
    have r1 : _ = some (Value.int .i64 0) := Hfin.out.cell 1
    have r2 : _ = some (Value.int .i64 0) := Hfin.out.cell 2
    have r3 : _ = some (Value.int .i64 0) := Hfin.out.cell 3
    exact bodyPost_ret (v := .tuple #[apV ⟨0, 0, 0⟩ 0, .bool false]) (by simp [results, Try.f8, go_sem, r0, r1, r2, r3]) rfl ⟨⟨⟨0, 0, 0⟩, 0, rfl⟩, HBf.out⟩
  | true =>
    have hmb : mayB b = false := by rw [hma] at hm; simpa using hm
    have HMb := Lib.hid hmb
    have k0 : _ = some pvb := hb1.cell 0
    have k1 : _ = some avb := hb1.cell 1
    have k2 : _ = some evb := hb1.cell 2
    have k3 : _ = some (Value.int .i64 b.r) := hb1.cell 3
    have Hb2 := Lib.hid hb2
    clear hb1 hb2 hma hc0 hm hmb
    go_wp2_with fail
    refine (HB.out w2 HB2.out).mono ?_
    rintro e w3 ⟨rfl, hB3⟩
    rw [HMb.out]
    have HB3 := Lib.hid (HB2.out.trans (hB3.mono hs2))
    have hb2 := Hb2.out.below hB3 Hb2.out.lt
    clear k0 k1 k2 k3 hB3 Hb2
    have hc0 := Hc0.out
    have z0 : _ = some (Value.int .i64 0) := hb2.cell 0
    have z1 : _ = some (Value.int .i64 0) := hb2.cell 1
    have z2 : _ = some (Value.int .i64 0) := hb2.cell 2
    have z3 : _ = some (Value.int .i64 0) := hb2.cell 3
    have f0 := hb2.frozen 0
    have f1 := hb2.frozen 1
    have f2 := hb2.frozen 2
    have f3 := hb2.frozen 3
    have Hfin := Lib.hid ((((hb2.set 0 (.int .i64 0)).set 1 (.int .i64 0)).set 2 (.int .i64 0)).set 3 (.int .i64 0))
    have HBf := Lib.hid ((((HB3.out.setCell (p := ⟨c0 + 1 + 1, 0, none⟩) (by simp only; omega) (.int .i64 0)).setCell (p := ⟨c0 + 1 + 1, 1, none⟩) (by simp only; omega) (.int .i64 0)).setCell (p := ⟨c0 + 1 + 1, 2, none⟩) (by simp only; omega) (.int .i64 0)).setCell (p := ⟨c0 + 1 + 1, 3, none⟩) (by simp only; omega) (.int .i64 0))
    clear hb2 hc0
    go_wp2
    obtain ⟨w9, hw9⟩ : ∃ w9, (((w3.setCell ⟨c0 + 1 + 1, 0, none⟩ (.int .i64 0)).setCell ⟨c0 + 1 + 1, 1, none⟩ (.int .i64 0)).setCell ⟨c0 + 1 + 1, 2, none⟩ (.int .i64 0)).setCell ⟨c0 + 1 + 1, 3, none⟩ (.int .i64 0) = w9 := ⟨_, rfl⟩
    rw [hw9] at Hfin HBf ⊢
    have r0 : _ = some (Value.int .i64 0) := Hfin.out.cell 0
    have r1 : _ = some (Value.int .i64 0) := Hfin.out.cell 1
    have r2 : _ = some (Value.int .i64 0) := Hfin.out.cell 2
    have r3 : _ = some (Value.int .i64 0) := Hfin.out.cell 3
    exact bodyPost_ret (v := .tuple #[apV ⟨0, 0, 0⟩ 0, .bool false]) (by simp [results, Try.f8, go_sem, r0, r1, r2, r3]) rfl ⟨⟨⟨0, 0, 0⟩, 0, rfl⟩, HBf.out⟩
end Go.Proofs.Ytpbpdgknjbjlcaa
