/- Contacts: Reach of both. -/
import Derived.Test.YtpbpdgknjbjlcaaCd
namespace Go.Proofs.Ytpbpdgknjbjlcaa
open Go.RowKit
theorem loP_first (n x : Pt) (l : List Pt) : loP n x (x :: l) = loP n x l := by simp [loP]
theorem hiP_first (n x : Pt) (l : List Pt) : hiP n x (x :: l) = hiP n x l := by simp [hiP]
set_option maxRecDepth 100000 in
theorem reach22_any (pv av ev : Value) (r : Int) (n : Nat) (l : List Pt) (x : Pt) (d : Pt) (w : World) (hl : (x :: l).length = n) (hv : Rd w pv n 3 (ptCells (x :: l))) (hd : Near 67108864 d) (hp : ∀ p ∈ x :: l, Near 67108864 p) :
    Calls Try.prog 22 #[corV pv av ev r, ptV d] w fun e w' => e = .returned (.tuple #[.int .i64 (loP d x l), .int .i64 (hiP d x l)]) ∧ Below w.heap.size w w' := by
  obtain ⟨a, c, rfl, c1, c2⟩ := hv.shape
  obtain ⟨b, off, rfl⟩ := hv.addr (by simp at hl; omega)
  have B0 : Below w.heap.size w ((w.alloc (.cells [.slice (some ⟨b, off, none⟩) n c, av, ev, .int .i64 r].toArray 24)).alloc (.cells d.cells.toArray 26)) := ((Below.refl _ w).alloc (Nat.le_refl _) _).alloc (by simp) _
  have hbk := (Blk.newAt (w := w) (b := w.heap.size) rfl 24 [.slice (some ⟨b, off, none⟩) n c, av, ev, .int .i64 r]).alloc (.cells d.cells.toArray 26)
  have hbd := Blk.newAt (w := w.alloc (.cells [.slice (some ⟨b, off, none⟩) n c, av, ev, .int .i64 r].toArray 24)) (b := w.heap.size + 1) (by simp) 26 d.cells
  have Hl := Lib.hid hl
  have Hd := Lib.hid (near_mono (M := 134217728) hd (by decide))
  have Hd0 := Lib.hid hd
  have Hp0 : Hid ((x :: l).all (nearB 67108864) = true) := Lib.hid (List.all_eq_true.2 fun p hm => nearB_iff.2 (hp p hm))
  have Hp := Lib.hid (fun p hm => near_mono (M := 134217728) (hp p hm) (by decide))
  have hn1 : 1 ≤ n := by simp at hl; omega
  have hnI : (0 : Int) < (n : Int) := by omega
  have hn0 : ((n : Int) == 0) = false := by simp; omega
  have hn0' : (n == 0) = false := by simp; omega
  have Hv0 := Lib.hid hv
  clear hl hd hp
  go_enter Try.func22, Try.ntmps22
  go_upto_region 1 with (fail)
  obtain ⟨w1, hw1⟩ : ∃ w1, (w.alloc (.cells [.slice (some ⟨b, off, none⟩) n c, av, ev, .int .i64 r].toArray 24)).alloc (.cells d.cells.toArray 26) = w1 := ⟨_, rfl⟩
  change Code.wp _ _ _ _ ((w.alloc (.cells [.slice (some ⟨b, off, none⟩) n c, av, ev, .int .i64 r].toArray 24)).alloc (.cells d.cells.toArray 26))
  rw [hw1] at B0 hbk hbd ⊢
  clear hw1
  have HB1 := Lib.hid B0
  have hs1 := B0.size
  clear B0 hv
  obtain ⟨bk, hbk0⟩ : ∃ bk, bk = w.heap.size := ⟨_, rfl⟩
  obtain ⟨bd, hbd0⟩ : ∃ bd, bd = w.heap.size + 1 := ⟨_, rfl⟩
  simp only [← hbd0] at hbd ⊢
  simp only [← hbk0] at hbk ⊢
  have Hbd0 := Lib.hid hbd0
  have Hbk0 := Lib.hid hbk0
  clear hbd0 hbk0
  have e0 : _ = some (Value.int .i64 d.x) := hbd.cell 0
  have e1 : _ = some (Value.int .i64 d.y) := hbd.cell 1
  have e2 : _ = some (Value.int .i64 d.z) := hbd.cell 2
  have Hbk := Lib.hid hbk
  have Hbd := Lib.hid hbd
  clear hbk hbd
  go_wp2_with fail
  refine (in43_any d 67108864 _ (by decide) (by decide)).mono ?_
  rintro e w2 ⟨rfl, hB2⟩
  rw [nearB_iff.2 Hd0.out]
  have HB2 := Lib.hid (HB1.out.trans (hB2.mono hs1))
  have hbk := Hbk.out.below hB2 Hbk.out.lt
  have hbd := Hbd.out.below hB2 Hbd.out.lt
  clear e0 e1 e2 hB2 Hbk Hbd HB1 hs1
  have k0 : _ = some (Value.slice (some ⟨b, off, none⟩) n c) := hbk.cell 0
  have Hbk := Lib.hid hbk
  have Hbd := Lib.hid hbd
  clear hbk hbd
  go_wp2_with fail
  refine (all44_any _ n (x :: l) 67108864 _ Hl.out (Hv0.out.new HB2.out) (by decide) (by decide)).mono ?_
  rintro e w3 ⟨rfl, hB3⟩
  rw [Hp0.out]
  have HB3 := Lib.hid (HB2.out.trans (hB3.mono HB2.out.size))
  have hbk := Hbk.out.below hB3 Hbk.out.lt
  have hbd := Hbd.out.below hB3 Hbd.out.lt
  clear k0 hB3 Hbk Hbd HB2
  have k0 : _ = some (Value.slice (some ⟨b, off, none⟩) n c) := hbk.cell 0
  have Hbk := Lib.hid hbk
  have Hbd := Lib.hid hbd
  have Hv := Lib.hid (Hv0.out.new HB3.out)
  clear hbk hbd Hv0
  go_upto_region 5 with (fail)
  have E0 : ∀ u : After w3, u.W.cell? ⟨bk, 0, none⟩ = some (Value.slice (some ⟨b, off, none⟩) n c) := fun u => (Hbk.out.below u.h Hbk.out.lt).cell 0
  have F0 : ∀ u : After w3, u.W.cell? ⟨bd, 0, none⟩ = some (.int .i64 d.x) := fun u => (Hbd.out.below u.h Hbd.out.lt).cell 0
  have F1 : ∀ u : After w3, u.W.cell? ⟨bd, 1, none⟩ = some (.int .i64 d.y) := fun u => (Hbd.out.below u.h Hbd.out.lt).cell 1
  have F2 : ∀ u : After w3, u.W.cell? ⟨bd, 2, none⟩ = some (.int .i64 d.z) := fun u => (Hbd.out.below u.h Hbd.out.lt).cell 2
  have G0 : ∀ u : After w3, u.W.cell? ⟨b, off, none⟩ = some (.int .i64 x.x) := fun u => by simpa using ((Hv.out.new u.h).pt (k := 0) (by omega) rfl).1
  have G1 : ∀ u : After w3, u.W.cell? ⟨b, off + 1, none⟩ = some (.int .i64 x.y) := fun u => by simpa using ((Hv.out.new u.h).pt (k := 0) (by omega) rfl).2.1
  have G2 : ∀ u : After w3, u.W.cell? ⟨b, off + 2, none⟩ = some (.int .i64 x.z) := fun u => by simpa using ((Hv.out.new u.h).pt (k := 0) (by omega) rfl).2.2
  refine wp_region_after (by kernel_rfl) (by kernel_rfl) ?_
  repeat (go_big_quiet_step ((go_at_call 26; exact calls_after _ (dot26_any d x _ Hd.out (Hp.out x (List.mem_cons_self ..))))))
  refine wpQuiet_nil ?_
  intro w9 hw9
  obtain ⟨u9, rfl⟩ := hw9
  clear E0 F0 F1 F2 G0 G1 G2
  have HB9 := Lib.hid (HB3.out.trans (u9.h.mono HB3.out.size))
  have Hv9 := Lib.hid (Hv.out.new u9.h)
  have Hbk9 := Lib.hid (Hbk.out.below u9.h Hbk.out.lt)
  have Hbd9 := Lib.hid (Hbd.out.below u9.h Hbd.out.lt)
  clear Hv Hbk Hbd HB3 k0
  generalize u9.W = w4 at *
  have hB0 : Below w4.heap.size w4 w4 := Below.refl _ _
  go_upto_block 8 with (fail)
  go_loopw [8, 9, 10, 11] (fun a b i _ wr => ∃ k : Nat, k ≤ n ∧ i = .int .i64 (k : Int) ∧ a = .int .i64 (loP d x ((x :: l).take k)) ∧ b = .int .i64 (hiP d x ((x :: l).take k)) ∧ Below w4.heap.size w4 wr) (fun _ _ i _ _ => n - (intOf i).toNat)
  case atStart => exact ⟨0, Nat.zero_le _, rfl, rfl, rfl, hB0⟩
  case round =>
    clear hB0
    obtain ⟨k, hk, rfl, ha, hb2, hB⟩ := hrel
    have hbk := Hbk9.out.below hB Hbk9.out.lt
    have k0 : _ = some (Value.slice (some ⟨b, off, none⟩) n c) := hbk.cell 0
    by_cases hkm : k < n
    · obtain ⟨y, hy⟩ : ∃ y, (x :: l)[k]? = some y := ⟨_, List.getElem?_eq_getElem (by rw [Hl.out]; exact hkm)⟩
      have hkI : (k : Int) < (n : Int) := by omega
      have hmem : y ∈ x :: l := List.mem_of_getElem? hy
      have hlo : loP d x ((x :: l).take (k + 1)) = min (loP d x ((x :: l).take k)) (dotP d y) := by rw [List.take_add_one, hy]; exact loP_snoc _ _ _ _
      have hhi : hiP d x ((x :: l).take (k + 1)) = max (hiP d x ((x :: l).take k)) (dotP d y) := by rw [List.take_add_one, hy]; exact hiP_snoc _ _ _ _
      have Hlo := Lib.hid hlo
      have Hhi := Lib.hid hhi
      have Hmem := Lib.hid hmem
      have Hy := Lib.hid hy
      have HB := Lib.hid hB
      have Hbk := Lib.hid hbk
      have Hbd := Lib.hid (Hbd9.out.below hB Hbd9.out.lt)
      have Hv := Lib.hid (Hv9.out.new hB)
      subst ha
      subst hb2
      generalize loP d x ((x :: l).take k) = lo at *
      generalize hiP d x ((x :: l).take k) = hi at *
      clear hy hB hbk hlo hhi hmem
      go_upto_region 10 with (fail)
      have E0 : ∀ u : After wr, u.W.cell? ⟨bk, 0, none⟩ = some (Value.slice (some ⟨b, off, none⟩) n c) := fun u => (Hbk.out.below u.h Hbk.out.lt).cell 0
      have F0 : ∀ u : After wr, u.W.cell? ⟨bd, 0, none⟩ = some (.int .i64 d.x) := fun u => (Hbd.out.below u.h Hbd.out.lt).cell 0
      have F1 : ∀ u : After wr, u.W.cell? ⟨bd, 1, none⟩ = some (.int .i64 d.y) := fun u => (Hbd.out.below u.h Hbd.out.lt).cell 1
      have F2 : ∀ u : After wr, u.W.cell? ⟨bd, 2, none⟩ = some (.int .i64 d.z) := fun u => (Hbd.out.below u.h Hbd.out.lt).cell 2
      have G0 : ∀ u : After wr, u.W.cell? ⟨b, off + k * 3, none⟩ = some (.int .i64 y.x) := fun u => ((Hv.out.new u.h).pt (k := k) (by omega) Hy.out).1
      have G1 : ∀ u : After wr, u.W.cell? ⟨b, off + k * 3 + 1, none⟩ = some (.int .i64 y.y) := fun u => ((Hv.out.new u.h).pt (k := k) (by omega) Hy.out).2.1
      have G2 : ∀ u : After wr, u.W.cell? ⟨b, off + k * 3 + 2, none⟩ = some (.int .i64 y.z) := fun u => ((Hv.out.new u.h).pt (k := k) (by omega) Hy.out).2.2
      refine wp_region_after (by kernel_rfl) (by kernel_rfl) ?_
      repeat (go_big_quiet_step ((go_at_call 26; exact calls_after _ (dot26_any d y _ Hd.out (Hp.out y Hmem.out)))))
      refine wpQuiet_nil ?_
      intro w5 hw5
      obtain ⟨u5, rfl⟩ := hw5
      clear E0 F0 F1 F2 G0 G1 G2 k0
      have HB5 := Lib.hid (HB.out.trans (u5.h.mono HB.out.size))
      generalize u5.W = w6 at *
      go_wp2
      go_roundw
      case rel => exact ⟨k + 1, by omega, by go_num, by rw [Hlo.out]; congr 1; split <;> omega, by rw [Hhi.out]; congr 1; split <;> omega, HB5.out⟩
      case measure => simp [intOf]; omega
    · obtain rfl : k = n := by omega
      have hall : (x :: l).take k = x :: l := by rw [← Hl.out, List.take_length]
      rw [hall, loP_first] at ha
      rw [hall, hiP_first] at hb2
      subst ha
      subst hb2
      have HBz := Lib.hid (HB9.out.trans (hB.mono HB9.out.size))
      clear hall hB hbk
      go_wp2
      go_ret2
      exact ⟨rfl, HBz.out⟩
set_option maxRecDepth 100000 in
theorem reach10_any (pv av ev : Value) (r : Int) (n : Nat) (l : List Pt) (x : Pt) (d : Pt) (w : World) (hl : (x :: l).length = n) (hv : Rd w pv n 3 (ptCells (x :: l))) (hd : Near 67108864 d) (hp : ∀ p ∈ x :: l, Near 67108864 p) :
    Calls Try.prog 10 #[corV pv av ev r, ptV d] w fun e w' => e = .returned (.tuple #[.int .i64 (loP d x l), .int .i64 (hiP d x l)]) ∧ Below w.heap.size w w' := by
  obtain ⟨a, c, rfl, c1, c2⟩ := hv.shape
  have B0 : Below w.heap.size w ((w.alloc (.cells [.slice a n c, av, ev, .int .i64 r].toArray 24)).alloc (.cells d.cells.toArray 26)) := ((Below.refl _ w).alloc (Nat.le_refl _) _).alloc (by simp) _
  have hbk := (Blk.newAt (w := w) (b := w.heap.size) rfl 24 [.slice a n c, av, ev, .int .i64 r]).alloc (.cells d.cells.toArray 26)
  have hbd := Blk.newAt (w := w.alloc (.cells [.slice a n c, av, ev, .int .i64 r].toArray 24)) (b := w.heap.size + 1) (by simp) 26 d.cells
  have Hl := Lib.hid hl
  have Hd := Lib.hid (near_mono (M := 134217728) hd (by decide))
  have Hd0 := Lib.hid hd
  have Hp0 : Hid ((x :: l).all (nearB 67108864) = true) := Lib.hid (List.all_eq_true.2 fun p hm => nearB_iff.2 (hp p hm))
  have Hp := Lib.hid (fun p hm => near_mono (M := 134217728) (hp p hm) (by decide))
  have hn1 : 1 ≤ n := by simp at hl; omega
  have hnI : (0 : Int) < (n : Int) := by omega
  have hn0 : ((n : Int) == 0) = false := by simp; omega
  have hn0' : (n == 0) = false := by simp; omega
  have Hv0 := Lib.hid hv
  clear hl hd hp
  go_enter Try.func10, Try.ntmps10
  go_upto_region 1 with (fail)
  obtain ⟨w1, hw1⟩ : ∃ w1, (w.alloc (.cells [.slice a n c, av, ev, .int .i64 r].toArray 24)).alloc (.cells d.cells.toArray 26) = w1 := ⟨_, rfl⟩
  change Code.wp _ _ _ _ ((w.alloc (.cells [.slice a n c, av, ev, .int .i64 r].toArray 24)).alloc (.cells d.cells.toArray 26))
  rw [hw1] at B0 hbk hbd ⊢
  clear hw1
  have HB0 := Lib.hid B0
  have hs1 := B0.size
  have HQ : Hid (∀ W, Below w1.heap.size w1 W → (fun W => W.cell? ⟨w.heap.size, 0, none⟩ = some (.slice a n c) ∧ W.cell? ⟨w.heap.size + 1, 0, none⟩ = some (.int .i64 d.x) ∧ W.cell? ⟨w.heap.size + 1, 1, none⟩ = some (.int .i64 d.y) ∧ W.cell? ⟨w.heap.size + 1, 2, none⟩ = some (.int .i64 d.z)) W) := Lib.hid fun W hW => by
    have h := hbk.below hW hbk.lt
    have k := hbd.below hW hbd.lt
    exact ⟨h.cell 0, k.cell 0, k.cell 1, k.cell 2⟩
  have HBc := (Below.refl w1.heap.size w1).drew
  clear B0 hv hbk hbd
  go_region_held3 (fun W => W.cell? ⟨w.heap.size, 0, none⟩ = some (.slice a n c) ∧ W.cell? ⟨w.heap.size + 1, 0, none⟩ = some (.int .i64 d.x) ∧ W.cell? ⟨w.heap.size + 1, 1, none⟩ = some (.int .i64 d.y) ∧ W.cell? ⟨w.heap.size + 1, 2, none⟩ = some (.int .i64 d.z)) (first | with_reducible exact HQ.out _ HBc | exact HQ.out _ HBc)
    (first
      | (go_at_call 33; refine (beyond33_new 67108864 _).mono ?_; rintro e wn ⟨⟨bn, rfl, hbn⟩, hBn⟩; replace HBc := HBc.trans (hBn.mono HBc.size); clear hBn)
      | (go_at_call 52; refine (beyond52_any d 67108864 _ _ (by decide) (by decide) hbn).mono ?_; rintro e wm ⟨rfl, hBm⟩; rw [nearB_iff.2 Hd0.out]; replace HBc := HBc.trans (hBm.mono HBc.size); clear hBm hbn)
      | (go_at_call 35; refine (contains35_any (.slice a n c) n (x :: l) 67108864 _ _ Hl.out ((Hv0.out.new HB0.out).new HBc) (by decide) (by decide) hbn).mono ?_; rintro e wm ⟨rfl, hBm⟩; rw [Hp0.out]; replace HBc := HBc.trans (hBm.mono HBc.size); clear hBm hbn))
  have HBm := Lib.hid (HB0.out.trans (HBc.mono hs1))
  obtain ⟨k0, c0, c1, c2⟩ := HQ.out wm HBc
  have Hvm := Lib.hid (Hv0.out.new HBm.out)
  clear HQ HBc HB0 hs1 Hv0
  go_wp2_with fail
  refine (reach36_any _ n l x d wm Hl.out Hvm.out Hd.out Hp.out).mono ?_
  rintro e w3 ⟨rfl, hB3⟩
  have HB3 := Lib.hid (HBm.out.trans (hB3.mono HBm.out.size))
  clear hB3 k0 c0 c1 c2
  go_wp2
  go_ret2
  exact ⟨rfl, HB3.out⟩
end Go.Proofs.Ytpbpdgknjbjlcaa
