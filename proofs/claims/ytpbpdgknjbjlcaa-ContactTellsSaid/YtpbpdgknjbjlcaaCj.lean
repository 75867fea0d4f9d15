/- Contacts: the closures of a part; its foremost points. -/
import Derived.Test.YtpbpdgknjbjlcaaCi
namespace Go.Proofs.Ytpbpdgknjbjlcaa
open Go.RowKit
set_option maxRecDepth 100000 in
theorem touch11_any (p d : Pt) (H : Int) (bh bn : Nat) (w : World) (hh : Blk w bh 3 [.int .i64 H]) (hn : Blk w bn 26 d.cells) (hp : Near 16777216 p) (hd : Near 16777216 d) (hH : -844424930131968 ≤ H ∧ H ≤ 844424930131968) :
    Calls Try.prog 11 #[ptV p, .pointer (some ⟨bh, 0, none⟩), .pointer (some ⟨bn, 0, none⟩)] w fun e w' => e = .returned (.int .i64 (H - dotP d p)) ∧ Below w.heap.size w w' := by
  have B0 : Below w.heap.size w (w.alloc (.cells p.cells.toArray 26)) := (Below.refl _ w).alloc (Nat.le_refl _) _
  have hb := Blk.newAt (w := w) (b := w.heap.size) rfl 26 p.cells
  have hh1 := hh.alloc (.cells p.cells.toArray 26)
  have hn1 := hn.alloc (.cells p.cells.toArray 26)
  obtain ⟨D0, D1⟩ := dot24 hd hp
  obtain ⟨H0, H1⟩ := hH
  have Hp := Lib.hid hp
  have Hd := Lib.hid hd
  obtain ⟨D, hD⟩ : ∃ D, D = dotP d p := ⟨_, rfl⟩
  rw [← hD] at D0 D1 ⊢
  have HD := Lib.hid hD
  have eD := IntWalk.i64_in (H - D) (by omega)
  clear hh hn hp hd hD
  go_enter Try.func11, Try.ntmps11
  go_upto_region 1 with (fail)
  obtain ⟨w1, hw1⟩ : ∃ w1, w.alloc (.cells p.cells.toArray 26) = w1 := ⟨_, rfl⟩
  change Code.wp _ _ _ _ (w.alloc (.cells p.cells.toArray 26))
  rw [hw1] at B0 hb hh1 hn1 ⊢
  clear hw1
  have HB := Lib.hid B0
  have hs := B0.size
  clear B0
  have E0 : ∀ u : After w1, u.W.cell? ⟨bh, 0, none⟩ = some (.int .i64 H) := fun u => (hh1.below u.h hh1.lt).cell 0
  have F0 : ∀ u : After w1, u.W.cell? ⟨bn, 0, none⟩ = some (.int .i64 d.x) := fun u => (hn1.below u.h hn1.lt).cell 0
  have F1 : ∀ u : After w1, u.W.cell? ⟨bn, 1, none⟩ = some (.int .i64 d.y) := fun u => (hn1.below u.h hn1.lt).cell 1
  have F2 : ∀ u : After w1, u.W.cell? ⟨bn, 2, none⟩ = some (.int .i64 d.z) := fun u => (hn1.below u.h hn1.lt).cell 2
  have G0 : ∀ u : After w1, u.W.cell? ⟨w.heap.size, 0, none⟩ = some (.int .i64 p.x) := fun u => (hb.below u.h hb.lt).cell 0
  have G1 : ∀ u : After w1, u.W.cell? ⟨w.heap.size, 1, none⟩ = some (.int .i64 p.y) := fun u => (hb.below u.h hb.lt).cell 1
  have G2 : ∀ u : After w1, u.W.cell? ⟨w.heap.size, 2, none⟩ = some (.int .i64 p.z) := fun u => (hb.below u.h hb.lt).cell 2
  have HX : Hid (∀ W, Calls Try.prog 12 #[ptV d, ptV p] W fun e W' => e = .returned (.int .i64 D) ∧ Below W.heap.size W W') := Lib.hid fun W => by
    rw [HD.out]
    exact dot12_any d p W (near_mono Hd.out (by decide)) (near_mono Hp.out (by decide))
  refine wp_region_after (by kernel_rfl) (by kernel_rfl) ?_
  repeat (go_big_quiet_step ((go_at_call 12; exact calls_after _ (HX.out _))))
  refine wpQuiet_nil ?_
  intro w9 hw9
  obtain ⟨u9, rfl⟩ := hw9
  clear E0 F0 F1 F2 G0 G1 G2
  have HB9 := Lib.hid (HB.out.trans (u9.h.mono hs))
  go_wp2
  go_ret
  exact ⟨rfl, HB9.out⟩
set_option maxRecDepth 100000 in
theorem touch13_any (p d : Pt) (H : Int) (bh bn : Nat) (w : World) (hh : Blk w bh 3 [.int .i64 H]) (hn : Blk w bn 26 d.cells) (hp : Near 16777216 p) (hd : Near 16777216 d) (hH : -844424930131968 ≤ H ∧ H ≤ 844424930131968) :
    Calls Try.prog 13 #[ptV p, .pointer (some ⟨bn, 0, none⟩), .pointer (some ⟨bh, 0, none⟩)] w fun e w' => e = .returned (.int .i64 (dotP d p - H)) ∧ Below w.heap.size w w' := by
  have B0 : Below w.heap.size w (w.alloc (.cells p.cells.toArray 26)) := (Below.refl _ w).alloc (Nat.le_refl _) _
  have hb := Blk.newAt (w := w) (b := w.heap.size) rfl 26 p.cells
  have hh1 := hh.alloc (.cells p.cells.toArray 26)
  have hn1 := hn.alloc (.cells p.cells.toArray 26)
  obtain ⟨D0, D1⟩ := dot24 hd hp
  obtain ⟨H0, H1⟩ := hH
  have Hp := Lib.hid hp
  have Hd := Lib.hid hd
  obtain ⟨D, hD⟩ : ∃ D, D = dotP d p := ⟨_, rfl⟩
  rw [← hD] at D0 D1 ⊢
  have HD := Lib.hid hD
  have eD := IntWalk.i64_in (D - H) (by omega)
  clear hh hn hp hd hD
  go_enter Try.func13, Try.ntmps13
  go_upto_region 1 with (fail)
  obtain ⟨w1, hw1⟩ : ∃ w1, w.alloc (.cells p.cells.toArray 26) = w1 := ⟨_, rfl⟩
  change Code.wp _ _ _ _ (w.alloc (.cells p.cells.toArray 26))
  rw [hw1] at B0 hb hh1 hn1 ⊢
  clear hw1
  have HB := Lib.hid B0
  have hs := B0.size
  clear B0
  have E0 : ∀ u : After w1, u.W.cell? ⟨bh, 0, none⟩ = some (.int .i64 H) := fun u => (hh1.below u.h hh1.lt).cell 0
  have F0 : ∀ u : After w1, u.W.cell? ⟨bn, 0, none⟩ = some (.int .i64 d.x) := fun u => (hn1.below u.h hn1.lt).cell 0
  have F1 : ∀ u : After w1, u.W.cell? ⟨bn, 1, none⟩ = some (.int .i64 d.y) := fun u => (hn1.below u.h hn1.lt).cell 1
  have F2 : ∀ u : After w1, u.W.cell? ⟨bn, 2, none⟩ = some (.int .i64 d.z) := fun u => (hn1.below u.h hn1.lt).cell 2
  have G0 : ∀ u : After w1, u.W.cell? ⟨w.heap.size, 0, none⟩ = some (.int .i64 p.x) := fun u => (hb.below u.h hb.lt).cell 0
  have G1 : ∀ u : After w1, u.W.cell? ⟨w.heap.size, 1, none⟩ = some (.int .i64 p.y) := fun u => (hb.below u.h hb.lt).cell 1
  have G2 : ∀ u : After w1, u.W.cell? ⟨w.heap.size, 2, none⟩ = some (.int .i64 p.z) := fun u => (hb.below u.h hb.lt).cell 2
  have HX : Hid (∀ W, Calls Try.prog 12 #[ptV d, ptV p] W fun e W' => e = .returned (.int .i64 D) ∧ Below W.heap.size W W') := Lib.hid fun W => by
    rw [HD.out]
    exact dot12_any d p W (near_mono Hd.out (by decide)) (near_mono Hp.out (by decide))
  refine wp_region_after (by kernel_rfl) (by kernel_rfl) ?_
  repeat (go_big_quiet_step ((go_at_call 12; exact calls_after _ (HX.out _))))
  refine wpQuiet_nil ?_
  intro w9 hw9
  obtain ⟨u9, rfl⟩ := hw9
  clear E0 F0 F1 F2 G0 G1 G2
  have HB9 := Lib.hid (HB.out.trans (u9.h.mono hs))
  go_wp2
  go_ret
  exact ⟨rfl, HB9.out⟩
set_option maxRecDepth 100000 in
theorem touch14_any (p d : Pt) (H : Int) (bh bn : Nat) (w : World) (hh : Blk w bh 3 [.int .i64 H]) (hn : Blk w bn 26 d.cells) (hp : Near 16777216 p) (hd : Near 16777216 d) (hH : -844424930131968 ≤ H ∧ H ≤ 844424930131968) :
    Calls Try.prog 14 #[ptV p, .pointer (some ⟨bn, 0, none⟩), .pointer (some ⟨bh, 0, none⟩)] w fun e w' => e = .returned (.int .i64 (dotP d p - H)) ∧ Below w.heap.size w w' := by
  have B0 : Below w.heap.size w (w.alloc (.cells p.cells.toArray 26)) := (Below.refl _ w).alloc (Nat.le_refl _) _
  have hb := Blk.newAt (w := w) (b := w.heap.size) rfl 26 p.cells
  have hh1 := hh.alloc (.cells p.cells.toArray 26)
  have hn1 := hn.alloc (.cells p.cells.toArray 26)
  obtain ⟨D0, D1⟩ := dot24 hd hp
  obtain ⟨H0, H1⟩ := hH
  have Hp := Lib.hid hp
  have Hd := Lib.hid hd
  obtain ⟨D, hD⟩ : ∃ D, D = dotP d p := ⟨_, rfl⟩
  rw [← hD] at D0 D1 ⊢
  have HD := Lib.hid hD
  have eD := IntWalk.i64_in (D - H) (by omega)
  clear hh hn hp hd hD
  go_enter Try.func14, Try.ntmps14
  go_upto_region 1 with (fail)
  obtain ⟨w1, hw1⟩ : ∃ w1, w.alloc (.cells p.cells.toArray 26) = w1 := ⟨_, rfl⟩
  change Code.wp _ _ _ _ (w.alloc (.cells p.cells.toArray 26))
  rw [hw1] at B0 hb hh1 hn1 ⊢
  clear hw1
  have HB := Lib.hid B0
  have hs := B0.size
  clear B0
  have E0 : ∀ u : After w1, u.W.cell? ⟨bh, 0, none⟩ = some (.int .i64 H) := fun u => (hh1.below u.h hh1.lt).cell 0
  have F0 : ∀ u : After w1, u.W.cell? ⟨bn, 0, none⟩ = some (.int .i64 d.x) := fun u => (hn1.below u.h hn1.lt).cell 0
  have F1 : ∀ u : After w1, u.W.cell? ⟨bn, 1, none⟩ = some (.int .i64 d.y) := fun u => (hn1.below u.h hn1.lt).cell 1
  have F2 : ∀ u : After w1, u.W.cell? ⟨bn, 2, none⟩ = some (.int .i64 d.z) := fun u => (hn1.below u.h hn1.lt).cell 2
  have G0 : ∀ u : After w1, u.W.cell? ⟨w.heap.size, 0, none⟩ = some (.int .i64 p.x) := fun u => (hb.below u.h hb.lt).cell 0
  have G1 : ∀ u : After w1, u.W.cell? ⟨w.heap.size, 1, none⟩ = some (.int .i64 p.y) := fun u => (hb.below u.h hb.lt).cell 1
  have G2 : ∀ u : After w1, u.W.cell? ⟨w.heap.size, 2, none⟩ = some (.int .i64 p.z) := fun u => (hb.below u.h hb.lt).cell 2
  have HX : Hid (∀ W, Calls Try.prog 12 #[ptV d, ptV p] W fun e W' => e = .returned (.int .i64 D) ∧ Below W.heap.size W W') := Lib.hid fun W => by
    rw [HD.out]
    exact dot12_any d p W (near_mono Hd.out (by decide)) (near_mono Hp.out (by decide))
  refine wp_region_after (by kernel_rfl) (by kernel_rfl) ?_
  repeat (go_big_quiet_step ((go_at_call 12; exact calls_after _ (HX.out _))))
  refine wpQuiet_nil ?_
  intro w9 hw9
  obtain ⟨u9, rfl⟩ := hw9
  clear E0 F0 F1 F2 G0 G1 G2
  have HB9 := Lib.hid (HB.out.trans (u9.h.mono hs))
  go_wp2
  go_ret
  exact ⟨rfl, HB9.out⟩
set_option maxRecDepth 100000 in
theorem touch15_any (p d : Pt) (H : Int) (bh bn : Nat) (w : World) (hh : Blk w bh 3 [.int .i64 H]) (hn : Blk w bn 26 d.cells) (hp : Near 16777216 p) (hd : Near 16777216 d) (hH : -844424930131968 ≤ H ∧ H ≤ 844424930131968) :
    Calls Try.prog 15 #[ptV p, .pointer (some ⟨bh, 0, none⟩), .pointer (some ⟨bn, 0, none⟩)] w fun e w' => e = .returned (.int .i64 (H - dotP d p)) ∧ Below w.heap.size w w' := by
  have B0 : Below w.heap.size w (w.alloc (.cells p.cells.toArray 26)) := (Below.refl _ w).alloc (Nat.le_refl _) _
  have hb := Blk.newAt (w := w) (b := w.heap.size) rfl 26 p.cells
  have hh1 := hh.alloc (.cells p.cells.toArray 26)
  have hn1 := hn.alloc (.cells p.cells.toArray 26)
  obtain ⟨D0, D1⟩ := dot24 hd hp
  obtain ⟨H0, H1⟩ := hH
  have Hp := Lib.hid hp
  have Hd := Lib.hid hd
  obtain ⟨D, hD⟩ : ∃ D, D = dotP d p := ⟨_, rfl⟩
  rw [← hD] at D0 D1 ⊢
  have HD := Lib.hid hD
  have eD := IntWalk.i64_in (H - D) (by omega)
  clear hh hn hp hd hD
  go_enter Try.func15, Try.ntmps15
  go_upto_region 1 with (fail)
  obtain ⟨w1, hw1⟩ : ∃ w1, w.alloc (.cells p.cells.toArray 26) = w1 := ⟨_, rfl⟩
  change Code.wp _ _ _ _ (w.alloc (.cells p.cells.toArray 26))
  rw [hw1] at B0 hb hh1 hn1 ⊢
  clear hw1
  have HB := Lib.hid B0
  have hs := B0.size
  clear B0
  have E0 : ∀ u : After w1, u.W.cell? ⟨bh, 0, none⟩ = some (.int .i64 H) := fun u => (hh1.below u.h hh1.lt).cell 0
  have F0 : ∀ u : After w1, u.W.cell? ⟨bn, 0, none⟩ = some (.int .i64 d.x) := fun u => (hn1.below u.h hn1.lt).cell 0
  have F1 : ∀ u : After w1, u.W.cell? ⟨bn, 1, none⟩ = some (.int .i64 d.y) := fun u => (hn1.below u.h hn1.lt).cell 1
  have F2 : ∀ u : After w1, u.W.cell? ⟨bn, 2, none⟩ = some (.int .i64 d.z) := fun u => (hn1.below u.h hn1.lt).cell 2
  have G0 : ∀ u : After w1, u.W.cell? ⟨w.heap.size, 0, none⟩ = some (.int .i64 p.x) := fun u => (hb.below u.h hb.lt).cell 0
  have G1 : ∀ u : After w1, u.W.cell? ⟨w.heap.size, 1, none⟩ = some (.int .i64 p.y) := fun u => (hb.below u.h hb.lt).cell 1
  have G2 : ∀ u : After w1, u.W.cell? ⟨w.heap.size, 2, none⟩ = some (.int .i64 p.z) := fun u => (hb.below u.h hb.lt).cell 2
  have HX : Hid (∀ W, Calls Try.prog 12 #[ptV d, ptV p] W fun e W' => e = .returned (.int .i64 D) ∧ Below W.heap.size W W') := Lib.hid fun W => by
    rw [HD.out]
    exact dot12_any d p W (near_mono Hd.out (by decide)) (near_mono Hp.out (by decide))
  refine wp_region_after (by kernel_rfl) (by kernel_rfl) ?_
  repeat (go_big_quiet_step ((go_at_call 12; exact calls_after _ (HX.out _))))
  refine wpQuiet_nil ?_
  intro w9 hw9
  obtain ⟨u9, rfl⟩ := hw9
  clear E0 F0 F1 F2 G0 G1 G2
  have HB9 := Lib.hid (HB.out.trans (u9.h.mono hs))
  go_wp2
  go_ret
  exact ⟨rfl, HB9.out⟩
set_option maxRecDepth 100000 in
theorem front16_11 (pv av ev fd : Value) (r way first : Int) (np : Nat) (PL : List Pt) (d : Pt) (H up : Int) (bh bn : Nat) (w : World) (hl : PL.length = np) (hn : np ≤ 100) (hv : Rd w pv np 3 (ptCells PL)) (hd : Near 16777216 d) (hp : ∀ p ∈ PL, Near 16777216 p) (hu : 0 ≤ up ∧ up ≤ 67108864)
    (hh : Blk w bh 3 [.int .i64 H]) (hnb : Blk w bn 26 d.cells) (hH : -844424930131968 ≤ H ∧ H ≤ 844424930131968) :
    Calls Try.prog 16 #[.agg #[pv, av, ev, .int .i64 r, .func (.func 11) #[] #[.pointer (some ⟨bh, 0, none⟩), .pointer (some ⟨bn, 0, none⟩)], fd, .int .i64 way, .int .i64 first], .int .i64 up] w fun e w' => (∃ v, e = .returned v ∧ w'.ownsRow w.heap.size 3 1 v (frontL (atHi d H up) PL).length (idxCells (frontL (atHi d H up) PL))) ∧ Below w.heap.size w w' := by
  obtain ⟨a, c, rfl, c1, c2⟩ := hv.shape
  obtain ⟨i0, hi, hz0, hz1, hz2⟩ := info_parts info3
  obtain ⟨cs, hcs⟩ : ∃ cs : List Value, cs = [.slice a np c, av, ev, .int .i64 r, .func (.func 11) #[] #[.pointer (some ⟨bh, 0, none⟩), .pointer (some ⟨bn, 0, none⟩)], fd, .int .i64 way, .int .i64 first] := ⟨_, rfl⟩
  have B0 : Below w.heap.size w (w.alloc (.cells cs.toArray 47)) := (Below.refl _ w).alloc (Nat.le_refl _) _
  have hbk := Blk.newAt (w := w) (b := w.heap.size) rfl 47 cs
  have Hl := Lib.hid hl
  have Hd := Lib.hid hd
  have Hp := Lib.hid hp
  have HHb := Lib.hid hH
  obtain ⟨u0, u1⟩ := hu
  have e8 := IntWalk.i64_in (8 * up) (by omega)
  have Hv := Lib.hid (hv.new B0)
  have Hh := Lib.hid (hh.below B0 hh.lt)
  have Hnb := Lib.hid (hnb.below B0 hnb.lt)
  have HB1 := Lib.hid B0
  have hs1 := B0.size
  clear hl hd hp hv hh hnb B0 hH
  go_enter Try.func16, Try.ntmps16
  go_upto_region 1 with (fail)
  obtain ⟨w1, hw1⟩ : ∃ w1, w.alloc (.cells cs.toArray 47) = w1 := ⟨_, rfl⟩
  rw [hw1] at hbk hs1 HB1 Hv Hh Hnb
  rw [hcs] at hw1
  change Code.wp _ _ _ _ (w.alloc (.cells [.slice a np c, av, ev, .int .i64 r, .func (.func 11) #[] #[.pointer (some ⟨bh, 0, none⟩), .pointer (some ⟨bn, 0, none⟩)], fd, .int .i64 way, .int .i64 first].toArray 47))
  rw [hw1]
  clear hw1
  rw [hcs] at hbk
  clear hcs cs
  generalize hbk0 : w.heap.size = bk at *
  have Hbk0 := Lib.hid hbk0
  clear hbk0
  have Hbk := Lib.hid hbk
  have k0 : _ = some (Value.slice a np c) := hbk.cell 0
  have hB0 : Below w1.heap.size w1 w1 := Below.refl _ _
  clear hbk
  go_upto_block 3 with (fail)
  clear k0
  go_loopw [5, 6, 7, 12] (fun v _ _ i wr => ∃ k : Nat, k ≤ np ∧ i = .int .i64 (k : Int) ∧ wr.ownsRow w1.heap.size 3 1 v (frontL (atHi d H up) (PL.take k)).length (idxCells (frontL (atHi d H up) (PL.take k))) ∧ Below w1.heap.size w1 wr) (fun _ _ _ i _ => np - (intOf i).toNat)
  case atStart => exact ⟨0, Nat.zero_le _, rfl, by simpa [frontL, idxCells] using World.ownsRow_nil w1 w1.heap.size 3 1, hB0⟩
  case round =>
    clear hB0
    obtain ⟨k, hk, rfl, hown, hB⟩ := hrel
    by_cases hkm : k < np
    · obtain ⟨y, hy⟩ : ∃ y, PL[k]? = some y := ⟨_, List.getElem?_eq_getElem (by rw [Hl.out]; exact hkm)⟩
      obtain ⟨b, off, rfl⟩ := Hv.out.addr (by omega)
      have hkI : (k : Int) < (np : Int) := by omega
      have hmem : y ∈ PL := List.mem_of_getElem? hy
      obtain ⟨D0, D1⟩ := dot24 Hd.out (Hp.out y hmem)
      obtain ⟨H0, H1⟩ := HHb.out
      have hsn : frontL (atHi d H up) (PL.take (k + 1)) = frontL (atHi d H up) (PL.take k) ++ (if atHi d H up y then [k] else []) := by
        rw [List.take_add_one, hy]
        have := frontL_snoc (atHi d H up) (PL.take k) y
        rw [List.length_take, Hl.out, Nat.min_eq_left hk] at this
        exact this
      have hle : (frontL (atHi d H up) (PL.take k)).length ≤ 100 := Nat.le_trans (frontL_len _ _) (by rw [List.length_take]; omega)
      obtain ⟨q0, q1, q2⟩ := (Hv.out.new hB).pt hkm hy
      have hs := hB.size
      have hB2 := hB.alloc hs (.cells y.cells.toArray 26)
      have hyb := Blk.newAt (w := wr) (b := wr.heap.size) rfl 26 y.cells
      have hbk2 := Hbk.out.below hB Hbk.out.lt
      have hblt := hbk2.lt
      have kf : _ = some (Value.func (.func 11) #[] #[.pointer (some ⟨bh, 0, none⟩), .pointer (some ⟨bn, 0, none⟩)]) := hbk2.cell 4
      have m0 : _ = some (Value.int .i64 y.x) := hyb.cell 0
      have m1 : _ = some (Value.int .i64 y.y) := hyb.cell 1
      have m2 : _ = some (Value.int .i64 y.z) := hyb.cell 2
      have Hsn := Lib.hid hsn
      have Hmem := Lib.hid hmem
      have HB := Lib.hid hB2
      have Hown := Lib.hid (hown.alloc (.cells y.cells.toArray 26))
      have Hh2 := Lib.hid (Hh.out.below hB2 Hh.out.lt)
      have Hn2 := Lib.hid (Hnb.out.below hB2 Hnb.out.lt)
      obtain ⟨D, hD⟩ : ∃ D, D = dotP d y := ⟨_, rfl⟩
      rw [← hD] at D0 D1
      have HD := Lib.hid hD
      clear hy hB hB2 hmem hsn hown hD hyb hbk2
      go_wp2_with fail
      refine (touch11_any y d H bh bn _ Hh2.out Hn2.out (Hp.out y Hmem.out) Hd.out HHb.out).mono ?_
      rintro e w5 ⟨rfl, hB5⟩
      rw [← HD.out]
      have HB5 := Lib.hid (HB.out.trans (hB5.mono HB.out.size))
      have hown := own_new Hown.out hB5
      have hs6 := HB5.out.size
      have eD := IntWalk.i64_in (H - D) (by omega)
      clear HB Hown q0 q1 q2 kf m0 m1 m2 Hh2 Hn2 hB5
      by_cases hle2 : H - D ≤ 8 * up
      · have hk1 : atHi d H up y = true := by unfold atHi; rw [← HD.out]; exact decide_eq_true hle2
        have hsn2 := Hsn.out
        rw [hk1] at hsn2
        have Hsn2 := Lib.hid hsn2
        obtain ⟨T, hT⟩ : ∃ T, T = (frontL (atHi d H up) (PL.take k)).length := ⟨_, rfl⟩
        rw [← hT] at hown hle
        have HT := Lib.hid hT
        clear hk1 hsn2 hT
        go_wp2_with (at_builtin; refine wpList_append_own _ rfl _ _ 49 rfl w1.heap.size 3 i0 (.int .i64 0) 1 8 Try.underlying49 hi hz0 hz1 hz2 rfl (by decide) _ _ _ rfl (hown.alloc _) ⟨w5.heap.size, 0, none⟩ 1 1 [.int .i64 k] rfl rfl (cell_one_new _ _ _) (by simp [Value.oneCell']) (by unfold maxLen; omega) (by omega) (by simp; omega) ?_; intro v' w7 hown' hgrow _)
        have hb1 : Below w1.heap.size w1 w7 := (HB5.out.alloc hs6 _).grown hgrow (by simp; omega) (fun r hr => ownBlock_ge hown hr)
        have hown2 : w7.ownsRow w1.heap.size 3 1 v' (frontL (atHi d H up) (PL.take (k + 1))).length (idxCells (frontL (atHi d H up) (PL.take (k + 1)))) := by
          rw [Hsn2.out]
          simp only [if_true, List.length_append, List.length_singleton, ← HT.out]
          simpa [idxCells] using hown'
        clear hown' hgrow
        go_roundw
        case rel => exact ⟨k + 1, by omega, by go_num, hown2, hb1⟩
        case measure => simp [intOf]; omega
      · have hk1 : atHi d H up y = false := by unfold atHi; rw [← HD.out]; exact decide_eq_false hle2
        have hsn2 := Hsn.out
        rw [hk1] at hsn2
        have hown2 : w5.ownsRow w1.heap.size 3 1 u5 (frontL (atHi d H up) (PL.take (k + 1))).length (idxCells (frontL (atHi d H up) (PL.take (k + 1)))) := by
          rw [hsn2]
          simpa using hown
        clear hk1 hsn2 hown
        go_wp2
        go_roundw
        case rel => exact ⟨k + 1, by omega, by go_num, hown2, HB5.out⟩
        case measure => simp [intOf]; omega
    · obtain rfl : k = np := by omega
      have hall : PL.take k = PL := by rw [← Hl.out, List.take_length]
      rw [hall] at hown
      have Hf := Lib.hid (own_base (base' := bk) hown hs1)
      have HBz := Lib.hid (HB1.out.trans (hB.mono hs1))
      clear hall hB hown
      go_wp2
      go_ret
      exact ⟨⟨_, rfl, by rw [Hbk0.out]; exact Hf.out⟩, by rw [Hbk0.out]; exact HBz.out⟩
set_option maxRecDepth 100000 in
theorem front16_14 (pv av ev fd : Value) (r way first : Int) (np : Nat) (PL : List Pt) (d : Pt) (H up : Int) (bh bn : Nat) (w : World) (hl : PL.length = np) (hn : np ≤ 100) (hv : Rd w pv np 3 (ptCells PL)) (hd : Near 16777216 d) (hp : ∀ p ∈ PL, Near 16777216 p) (hu : 0 ≤ up ∧ up ≤ 67108864)
    (hh : Blk w bh 3 [.int .i64 H]) (hnb : Blk w bn 26 d.cells) (hH : -844424930131968 ≤ H ∧ H ≤ 844424930131968) :
    Calls Try.prog 16 #[.agg #[pv, av, ev, .int .i64 r, .func (.func 14) #[] #[.pointer (some ⟨bn, 0, none⟩), .pointer (some ⟨bh, 0, none⟩)], fd, .int .i64 way, .int .i64 first], .int .i64 up] w fun e w' => (∃ v, e = .returned v ∧ w'.ownsRow w.heap.size 3 1 v (frontL (atLo d H up) PL).length (idxCells (frontL (atLo d H up) PL))) ∧ Below w.heap.size w w' := by
  obtain ⟨a, c, rfl, c1, c2⟩ := hv.shape
  obtain ⟨i0, hi, hz0, hz1, hz2⟩ := info_parts info3
  obtain ⟨cs, hcs⟩ : ∃ cs : List Value, cs = [.slice a np c, av, ev, .int .i64 r, .func (.func 14) #[] #[.pointer (some ⟨bn, 0, none⟩), .pointer (some ⟨bh, 0, none⟩)], fd, .int .i64 way, .int .i64 first] := ⟨_, rfl⟩
  have B0 : Below w.heap.size w (w.alloc (.cells cs.toArray 47)) := (Below.refl _ w).alloc (Nat.le_refl _) _
  have hbk := Blk.newAt (w := w) (b := w.heap.size) rfl 47 cs
  have Hl := Lib.hid hl
  have Hd := Lib.hid hd
  have Hp := Lib.hid hp
  have HHb := Lib.hid hH
  obtain ⟨u0, u1⟩ := hu
  have e8 := IntWalk.i64_in (8 * up) (by omega)
  have Hv := Lib.hid (hv.new B0)
  have Hh := Lib.hid (hh.below B0 hh.lt)
  have Hnb := Lib.hid (hnb.below B0 hnb.lt)
  have HB1 := Lib.hid B0
  have hs1 := B0.size
  clear hl hd hp hv hh hnb B0 hH
  go_enter Try.func16, Try.ntmps16
  go_upto_region 1 with (fail)
  obtain ⟨w1, hw1⟩ : ∃ w1, w.alloc (.cells cs.toArray 47) = w1 := ⟨_, rfl⟩
  rw [hw1] at hbk hs1 HB1 Hv Hh Hnb
  rw [hcs] at hw1
  change Code.wp _ _ _ _ (w.alloc (.cells [.slice a np c, av, ev, .int .i64 r, .func (.func 14) #[] #[.pointer (some ⟨bn, 0, none⟩), .pointer (some ⟨bh, 0, none⟩)], fd, .int .i64 way, .int .i64 first].toArray 47))
  rw [hw1]
  clear hw1
  rw [hcs] at hbk
  clear hcs cs
  generalize hbk0 : w.heap.size = bk at *
  have Hbk0 := Lib.hid hbk0
  clear hbk0
  have Hbk := Lib.hid hbk
  have k0 : _ = some (Value.slice a np c) := hbk.cell 0
  have hB0 : Below w1.heap.size w1 w1 := Below.refl _ _
  clear hbk
  go_upto_block 3 with (fail)
  clear k0
  go_loopw [5, 6, 7, 12] (fun v _ _ i wr => ∃ k : Nat, k ≤ np ∧ i = .int .i64 (k : Int) ∧ wr.ownsRow w1.heap.size 3 1 v (frontL (atLo d H up) (PL.take k)).length (idxCells (frontL (atLo d H up) (PL.take k))) ∧ Below w1.heap.size w1 wr) (fun _ _ _ i _ => np - (intOf i).toNat)
  case atStart => exact ⟨0, Nat.zero_le _, rfl, by simpa [frontL, idxCells] using World.ownsRow_nil w1 w1.heap.size 3 1, hB0⟩
  case round =>
    clear hB0
    obtain ⟨k, hk, rfl, hown, hB⟩ := hrel
    by_cases hkm : k < np
    · obtain ⟨y, hy⟩ : ∃ y, PL[k]? = some y := ⟨_, List.getElem?_eq_getElem (by rw [Hl.out]; exact hkm)⟩
      obtain ⟨b, off, rfl⟩ := Hv.out.addr (by omega)
      have hkI : (k : Int) < (np : Int) := by omega
      have hmem : y ∈ PL := List.mem_of_getElem? hy
      obtain ⟨D0, D1⟩ := dot24 Hd.out (Hp.out y hmem)
      obtain ⟨H0, H1⟩ := HHb.out
      have hsn : frontL (atLo d H up) (PL.take (k + 1)) = frontL (atLo d H up) (PL.take k) ++ (if atLo d H up y then [k] else []) := by
        rw [List.take_add_one, hy]
        have := frontL_snoc (atLo d H up) (PL.take k) y
        rw [List.length_take, Hl.out, Nat.min_eq_left hk] at this
        exact this
      have hle : (frontL (atLo d H up) (PL.take k)).length ≤ 100 := Nat.le_trans (frontL_len _ _) (by rw [List.length_take]; omega)
      obtain ⟨q0, q1, q2⟩ := (Hv.out.new hB).pt hkm hy
      have hs := hB.size
      have hB2 := hB.alloc hs (.cells y.cells.toArray 26)
      have hyb := Blk.newAt (w := wr) (b := wr.heap.size) rfl 26 y.cells
      have hbk2 := Hbk.out.below hB Hbk.out.lt
      have hblt := hbk2.lt
      have kf : _ = some (Value.func (.func 14) #[] #[.pointer (some ⟨bn, 0, none⟩), .pointer (some ⟨bh, 0, none⟩)]) := hbk2.cell 4
      have m0 : _ = some (Value.int .i64 y.x) := hyb.cell 0
      have m1 : _ = some (Value.int .i64 y.y) := hyb.cell 1
      have m2 : _ = some (Value.int .i64 y.z) := hyb.cell 2
      have Hsn := Lib.hid hsn
      have Hmem := Lib.hid hmem
      have HB := Lib.hid hB2
      have Hown := Lib.hid (hown.alloc (.cells y.cells.toArray 26))
      have Hh2 := Lib.hid (Hh.out.below hB2 Hh.out.lt)
      have Hn2 := Lib.hid (Hnb.out.below hB2 Hnb.out.lt)
      obtain ⟨D, hD⟩ : ∃ D, D = dotP d y := ⟨_, rfl⟩
      rw [← hD] at D0 D1
      have HD := Lib.hid hD
      clear hy hB hB2 hmem hsn hown hD hyb hbk2
      go_wp2_with fail
      refine (touch14_any y d H bh bn _ Hh2.out Hn2.out (Hp.out y Hmem.out) Hd.out HHb.out).mono ?_
      rintro e w5 ⟨rfl, hB5⟩
      rw [← HD.out]
      have HB5 := Lib.hid (HB.out.trans (hB5.mono HB.out.size))
      have hown := own_new Hown.out hB5
      have hs6 := HB5.out.size
      have eD := IntWalk.i64_in (D - H) (by omega)
      clear HB Hown q0 q1 q2 kf m0 m1 m2 Hh2 Hn2 hB5
      by_cases hle2 : D - H ≤ 8 * up
      · have hk1 : atLo d H up y = true := by unfold atLo; rw [← HD.out]; exact decide_eq_true hle2
        have hsn2 := Hsn.out
        rw [hk1] at hsn2
        have Hsn2 := Lib.hid hsn2
        obtain ⟨T, hT⟩ : ∃ T, T = (frontL (atLo d H up) (PL.take k)).length := ⟨_, rfl⟩
        rw [← hT] at hown hle
        have HT := Lib.hid hT
        clear hk1 hsn2 hT
        go_wp2_with (at_builtin; refine wpList_append_own _ rfl _ _ 49 rfl w1.heap.size 3 i0 (.int .i64 0) 1 8 Try.underlying49 hi hz0 hz1 hz2 rfl (by decide) _ _ _ rfl (hown.alloc _) ⟨w5.heap.size, 0, none⟩ 1 1 [.int .i64 k] rfl rfl (cell_one_new _ _ _) (by simp [Value.oneCell']) (by unfold maxLen; omega) (by omega) (by simp; omega) ?_; intro v' w7 hown' hgrow _)
        have hb1 : Below w1.heap.size w1 w7 := (HB5.out.alloc hs6 _).grown hgrow (by simp; omega) (fun r hr => ownBlock_ge hown hr)
        have hown2 : w7.ownsRow w1.heap.size 3 1 v' (frontL (atLo d H up) (PL.take (k + 1))).length (idxCells (frontL (atLo d H up) (PL.take (k + 1)))) := by
          rw [Hsn2.out]
          simp only [if_true, List.length_append, List.length_singleton, ← HT.out]
          simpa [idxCells] using hown'
        clear hown' hgrow
        go_roundw
        case rel => exact ⟨k + 1, by omega, by go_num, hown2, hb1⟩
        case measure => simp [intOf]; omega
      · have hk1 : atLo d H up y = false := by unfold atLo; rw [← HD.out]; exact decide_eq_false hle2
        have hsn2 := Hsn.out
        rw [hk1] at hsn2
        have hown2 : w5.ownsRow w1.heap.size 3 1 u5 (frontL (atLo d H up) (PL.take (k + 1))).length (idxCells (frontL (atLo d H up) (PL.take (k + 1)))) := by
          rw [hsn2]
          simpa using hown
        clear hk1 hsn2 hown
        go_wp2
        go_roundw
        case rel => exact ⟨k + 1, by omega, by go_num, hown2, HB5.out⟩
        case measure => simp [intOf]; omega
    · obtain rfl : k = np := by omega
      have hall : PL.take k = PL := by rw [← Hl.out, List.take_length]
      rw [hall] at hown
      have Hf := Lib.hid (own_base (base' := bk) hown hs1)
      have HBz := Lib.hid (HB1.out.trans (hB.mono hs1))
      clear hall hB hown
      go_wp2
      go_ret
      exact ⟨⟨_, rfl, by rw [Hbk0.out]; exact Hf.out⟩, by rw [Hbk0.out]; exact HBz.out⟩
end Go.Proofs.Ytpbpdgknjbjlcaa
