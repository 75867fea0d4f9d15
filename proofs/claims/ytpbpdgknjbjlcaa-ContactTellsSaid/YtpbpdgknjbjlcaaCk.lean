/- Contacts: how spread points of a part are. -/
import Derived.Test.YtpbpdgknjbjlcaaCj
import Derived.BigRegion
namespace Go.Proofs.Ytpbpdgknjbjlcaa
open Go.RowKit
theorem min_alt (a b : Int) : min a b = if b < a then b else a := by rw [Int.min_def]; split <;> split <;> omega
theorem max_alt (a b : Int) : max a b = if a < b then b else a := by rw [Int.max_def]; split <;> split <;> omega
def loPt (q : Pt) (qs : List Pt) : Pt := ⟨minL q.x (qs.map Pt.x), minL q.y (qs.map Pt.y), minL q.z (qs.map Pt.z)⟩
def hiPt (q : Pt) (qs : List Pt) : Pt := ⟨maxL q.x (qs.map Pt.x), maxL q.y (qs.map Pt.y), maxL q.z (qs.map Pt.z)⟩
theorem spreadP_dot (q : Pt) (qs : List Pt) : dotP (subP (hiPt q qs) (loPt q qs)) ⟨1, 1, 1⟩ = spreadP q qs := by
  simp [dotP, subP, hiPt, loPt, spreadP]
theorem loPt_near {K : Int} {q : Pt} {qs : List Pt} (h : ∀ p ∈ q :: qs, Near K p) : Near K (loPt q qs) ∧ Near K (hiPt q qs) := by
  have hx : ∀ y ∈ qs.map Pt.x, -K ≤ y ∧ y ≤ K := by
    intro y hy
    obtain ⟨p, hp, rfl⟩ := List.mem_map.1 hy
    exact (h p (List.mem_cons_of_mem _ hp)).1
  have hy : ∀ y ∈ qs.map Pt.y, -K ≤ y ∧ y ≤ K := by
    intro y hy
    obtain ⟨p, hp, rfl⟩ := List.mem_map.1 hy
    exact (h p (List.mem_cons_of_mem _ hp)).2.1
  have hz : ∀ y ∈ qs.map Pt.z, -K ≤ y ∧ y ≤ K := by
    intro y hy
    obtain ⟨p, hp, rfl⟩ := List.mem_map.1 hy
    exact (h p (List.mem_cons_of_mem _ hp)).2.2
  obtain ⟨h1, h2, h3⟩ := h q (List.mem_cons_self ..)
  exact ⟨⟨minL_range h1 hx, minL_range h2 hy, minL_range h3 hz⟩, ⟨maxL_range h1 hx, maxL_range h2 hy, maxL_range h3 hz⟩⟩
theorem loPt_first (q : Pt) (qs : List Pt) : loPt q (q :: qs) = loPt q qs ∧ hiPt q (q :: qs) = hiPt q qs := by
  simp only [loPt, hiPt, List.map_cons, minL_first, maxL_first, and_self]
theorem Blk.cast {w : World} {b : Nat} {t : TypeId} {xs ys : List Value} (h : Blk w b t xs) (e : xs = ys) : Blk w b t ys := e ▸ h
set_option maxRecDepth 100000 in
set_option maxHeartbeats 2000000 in
theorem spread17_walk (pv av ev fb fd : Value) (r way first : Int) (np : Nat) (PL : List Pt) (iv : Value) (nL : Nat) (L : List Nat) (q : Pt) (qs : List Pt) (w : World) (hpl : PL.length = np) (hv : Rd w pv np 3 (ptCells PL)) (hp : ∀ p ∈ PL, Near 16777216 p)
    (hL : L.length = nL) (hn : nL ≤ 100) (hi : Rd w iv nL 1 (idxCells L)) (hlt : ∀ k ∈ L, k < np) (hq : L.map (ptAt PL) = q :: qs) :
    Calls Try.prog 17 #[.agg #[pv, av, ev, .int .i64 r, fb, fd, .int .i64 way, .int .i64 first], iv] w fun e w' => e = .returned (.int .i64 (spreadP q qs)) ∧ Below w.heap.size w w' := by
  obtain ⟨a, c, rfl, c1, c2⟩ := hv.shape
  obtain ⟨ia, ic, rfl, i1, i2⟩ := hi.shape
  have hnL1 : 1 ≤ nL := by rw [← hL]; cases L with | nil => simp at hq | cons a t => simp
  have hnp1 : 1 ≤ np := by
    cases L with
    | nil => simp at hq
    | cons k t => have := hlt k (List.mem_cons_self ..); omega
  obtain ⟨b, off, rfl⟩ := hv.addr (by omega)
  obtain ⟨bi, offi, rfl⟩ := hi.addr (by omega)
  obtain ⟨j0, hj0⟩ : ∃ j, L[0]? = some j := ⟨_, List.getElem?_eq_getElem (by rw [hL]; omega)⟩
  have hjn0 : j0 < np := hlt j0 (List.mem_of_getElem? hj0)
  have hq0 : q = ptAt PL j0 := by
    have := congrArg List.head? hq
    cases L with
    | nil => simp at hj0
    | cons k t => simp at hj0 this; rw [← hj0, ← this]
  have hB0 : Below w.heap.size w (w.alloc (.cells [.slice (some ⟨b, off, none⟩) np c, av, ev, .int .i64 r, fb, fd, .int .i64 way, .int .i64 first].toArray 47)) := (Below.refl _ w).alloc (Nat.le_refl _) _
  have hbk := Blk.newAt (w := w) (b := w.heap.size) rfl 47 [.slice (some ⟨b, off, none⟩) np c, av, ev, .int .i64 r, fb, fd, .int .i64 way, .int .i64 first]
  have hnI : (0 : Int) < (nL : Int) := by omega
  have hjI : (j0 : Int) < (np : Int) := by omega
  have hjI0 : (0 : Int) ≤ (j0 : Int) := by omega
  obtain ⟨S, hS⟩ : ∃ S, S = spreadP q qs := ⟨_, rfl⟩
  rw [← hS]
  have HS0 := Lib.hid hS
  clear hS
  have Hpl := Lib.hid hpl
  have Hp := Lib.hid hp
  have HL := Lib.hid hL
  have Hlt := Lib.hid hlt
  have Hq := Lib.hid hq
  have Hq0 := Lib.hid hq0
  have Hv0 := Lib.hid hv
  have Hi0 := Lib.hid hi
  have Hj0 := Lib.hid hj0
  clear hpl hp hL hlt hq hv hi hq0 hj0
  go_enter Try.func17, Try.ntmps17
  go_upto_region 1 with (fail)
  obtain ⟨w1, hw1⟩ : ∃ w1, w.alloc (.cells [.slice (some ⟨b, off, none⟩) np c, av, ev, .int .i64 r, fb, fd, .int .i64 way, .int .i64 first].toArray 47) = w1 := ⟨_, rfl⟩
  change Code.wp _ _ _ _ (w.alloc (.cells [.slice (some ⟨b, off, none⟩) np c, av, ev, .int .i64 r, fb, fd, .int .i64 way, .int .i64 first].toArray 47))
  rw [hw1] at hB0 hbk ⊢
  clear hw1
  have HB1 := Lib.hid hB0
  have hs1 := hB0.size
  clear hB0
  generalize hbk0 : w.heap.size = bk at *
  have Hbk0 := Lib.hid hbk0
  clear hbk0
  have HF : Hid (∀ W, Below w1.heap.size w1 W → W.cell? ⟨bk, 0, none⟩ = some (.slice (some ⟨b, off, none⟩) np c) ∧ (∀ j k, j < nL → L[j]? = some k → W.cell? ⟨bi, offi + j, none⟩ = some (.int .i64 (k : Int))) ∧ (∀ k p, k < np → PL[k]? = some p → W.cell? ⟨b, off + k * 3, none⟩ = some (.int .i64 p.x) ∧ W.cell? ⟨b, off + k * 3 + 1, none⟩ = some (.int .i64 p.y) ∧ W.cell? ⟨b, off + k * 3 + 2, none⟩ = some (.int .i64 p.z))) := Lib.hid fun W hW => by
    refine ⟨(hbk.below hW hbk.lt).cell 0, fun j k hj hk => ?_, fun k p hk hp => ?_⟩
    · have hB := HB1.out
      rw [← Hbk0.out] at hB
      rw [((Hi0.out.new hB).new hW).at (by rw [Nat.mul_one]; exact hj), idx_get hk]
    · have hB := HB1.out
      rw [← Hbk0.out] at hB
      exact ((Hv0.out.new hB).new hW).pt hk hp
  have hlt3 : bk < w1.heap.size ∧ bi < w1.heap.size ∧ b < w1.heap.size := by
    have hB := HB1.out
    rw [← Hbk0.out] at hB
    exact ⟨hbk.lt, (Hi0.out.new hB).block_lt (by omega), (Hv0.out.new hB).block_lt (by omega)⟩
  obtain ⟨l0, l1, l2⟩ := hlt3
  have hB0 : Below w1.heap.size w1 w1 := Below.refl _ _
  obtain ⟨k0, kI, kP⟩ := HF.out w1 hB0
  have k1 := kI 0 j0 (by omega) Hj0.out
  rw [Nat.add_zero] at k1
  obtain ⟨p0, p1, p2⟩ := kP j0 q hjn0 (by rw [Hq0.out]; exact ptAt_get (by rw [Hpl.out]; exact hjn0))
  clear hbk Hv0 Hi0 kI kP
  go_cut [5, 6] (fun v5 v6 wx => ∃ b5 b6 : Nat, v5 = .pointer (some ⟨b5, 0, none⟩) ∧ v6 = .pointer (some ⟨b6, 0, none⟩) ∧ b5 ≠ b6 ∧ w1.heap.size ≤ b5 ∧ w1.heap.size ≤ b6 ∧ Blk wx b5 26 q.cells ∧ Blk wx b6 26 q.cells ∧ Below w1.heap.size w1 wx)
  case first =>
    go_region
    all_goals go_wp2
    all_goals go_meet
    · exact ⟨_, _, rfl, rfl, by omega, by omega, by omega, ((Blk.new w1 26 q.cells).alloc _).drew, (Blk.newAt (w := w1.alloc (.cells q.cells.toArray 26)) (by simp) 26 q.cells).drew, (((Below.refl _ w1).alloc (Nat.le_refl _) _).alloc (by simp) _).drew⟩
    · exact ⟨_, _, rfl, rfl, by omega, by omega, by omega, (Blk.newAt (w := w1.alloc (.cells q.cells.toArray 26)) (by simp) 26 q.cells).drew, ((Blk.new w1 26 q.cells).alloc _).drew, (((Below.refl _ w1).alloc (Nat.le_refl _) _).alloc (by simp) _).drew⟩
  case rest =>
    obtain ⟨b5, b6, rfl, rfl, hne, g5, g6, hb5, hb6, hBc⟩ := hcut
    clear k0 k1 p0 p1 p2 hB0
    go_upto_block 3 with (fail)
    have e0 : q.cells = (loPt q ((L.take 0).map (ptAt PL))).cells := rfl
    have e1 : q.cells = (hiPt q ((L.take 0).map (ptAt PL))).cells := rfl
    have hb5' := hb5.cast e0
    have hb6' := hb6.cast e1
    clear hb5 hb6 e0 e1
    go_loopw [8, 9, 28] (fun _ _ i wr => ∃ k : Nat, k ≤ nL ∧ i = .int .i64 (k : Int) ∧ Blk wr b5 26 (loPt q ((L.take k).map (ptAt PL))).cells ∧ Blk wr b6 26 (hiPt q ((L.take k).map (ptAt PL))).cells ∧ Below w1.heap.size w1 wr) (fun _ _ i _ => nL - (intOf i).toNat)
    case atStart => exact ⟨0, Nat.zero_le _, rfl, hb5', hb6', hBc⟩
    case round =>
      clear hb5' hb6' hBc
      obtain ⟨k, hk, rfl, h5, h6, hB⟩ := hrel
      have c50 := h5.cell 0
      have c51 := h5.cell 1
      have c52 := h5.cell 2
      have c60 := h6.cell 0
      have c61 := h6.cell 1
      have c62 := h6.cell 2
      have l5 := h5.lt
      have l6 := h6.lt
      simp only [loPt, hiPt, Pt.cells, List.getElem?_cons_zero, List.getElem?_cons_succ] at c50 c51 c52 c60 c61 c62
      by_cases hkm : k < nL
      · obtain ⟨j, hj⟩ : ∃ j, L[k]? = some j := ⟨_, List.getElem?_eq_getElem (by rw [HL.out]; exact hkm)⟩
        have hjn : j < np := Hlt.out j (List.mem_of_getElem? hj)
        have hpt := ptAt_get (l := PL) (k := j) (by rw [Hpl.out]; exact hjn)
        obtain ⟨p, hpp⟩ : ∃ p, p = ptAt PL j := ⟨_, rfl⟩
        rw [← hpp] at hpt
        have hlo : loPt q ((L.take (k + 1)).map (ptAt PL)) = ⟨min (minL q.x (((L.take k).map (ptAt PL)).map Pt.x)) p.x, min (minL q.y (((L.take k).map (ptAt PL)).map Pt.y)) p.y, min (minL q.z (((L.take k).map (ptAt PL)).map Pt.z)) p.z⟩ := by
          rw [List.take_add_one, hj, hpp]
          simp [loPt, minL]
        have hhi : hiPt q ((L.take (k + 1)).map (ptAt PL)) = ⟨max (maxL q.x (((L.take k).map (ptAt PL)).map Pt.x)) p.x, max (maxL q.y (((L.take k).map (ptAt PL)).map Pt.y)) p.y, max (maxL q.z (((L.take k).map (ptAt PL)).map Pt.z)) p.z⟩ := by
          rw [List.take_add_one, hj, hpp]
          simp [hiPt, maxL]
        obtain ⟨k0, kI, kP⟩ := HF.out wr hB
        have k1 := kI k j hkm hj
        obtain ⟨p0, p1, p2⟩ := kP j p hjn hpt
        have hkI : (k : Int) < (nL : Int) := by omega
        have hjI2 : (j : Int) < (np : Int) := by omega
        have hjI3 : (0 : Int) ≤ (j : Int) := by omega
        have Hlo := Lib.hid hlo
        have Hhi := Lib.hid hhi
        have hs := hB.size
        have f5 := h5.frozen 0
        have f51 := h5.frozen 1
        have f52 := h5.frozen 2
        have f6 := h6.frozen 0
        have f61 := h6.frozen 1
        have f62 := h6.frozen 2
        have lw : wr.heap.size ≠ b5 := by omega
        have lw6 : wr.heap.size ≠ b6 := by omega
        have H5 := Lib.hid h5
        have H6 := Lib.hid h6
        have HB := Lib.hid hB
        clear hlo hhi hj hpt hpp kI kP h5 h6 hB
        generalize minL q.x (((L.take k).map (ptAt PL)).map Pt.x) = lx at *
        generalize minL q.y (((L.take k).map (ptAt PL)).map Pt.y) = ly at *
        generalize minL q.z (((L.take k).map (ptAt PL)).map Pt.z) = lz at *
        generalize maxL q.x (((L.take k).map (ptAt PL)).map Pt.x) = hx at *
        generalize maxL q.y (((L.take k).map (ptAt PL)).map Pt.y) = hy at *
        generalize maxL q.z (((L.take k).map (ptAt PL)).map Pt.z) = hz at *
        go_wp2
        go_roundw
        case rel =>
          exact ⟨k + 1, by omega, by go_num, (((((((H5.out.set 0 _).set 1 _).set 2 _).setCell_ne (p := ⟨b6, 0, none⟩) hne _).setCell_ne (p := ⟨b6, 1, none⟩) hne _).setCell_ne (p := ⟨b6, 2, none⟩) hne _).alloc _).cast (by rw [Hlo.out]; simp only [min_alt]; rfl),
            (((((((H6.out.setCell_ne (p := ⟨b5, 0, none⟩) (Ne.symm hne) _).setCell_ne (p := ⟨b5, 1, none⟩) (Ne.symm hne) _).setCell_ne (p := ⟨b5, 2, none⟩) (Ne.symm hne) _).set 0 _).set 1 _).set 2 _).alloc _).cast (by rw [Hhi.out]; simp only [max_alt]; rfl),
            ((((((HB.out.setCell (p := ⟨b5, 0, none⟩) g5 _).setCell (p := ⟨b5, 1, none⟩) g5 _).setCell (p := ⟨b5, 2, none⟩) g5 _).setCell (p := ⟨b6, 0, none⟩) g6 _).setCell (p := ⟨b6, 1, none⟩) g6 _).setCell (p := ⟨b6, 2, none⟩) g6 _).alloc (by simp; omega) _⟩
        case measure => simp [intOf]; omega
      · obtain rfl : k = nL := by omega
        clear c50 c51 c52 c60 c61 c62
        have hall : (L.take k).map (ptAt PL) = q :: qs := by rw [← HL.out, List.take_length]; exact Hq.out
        have hmem : ∀ p ∈ q :: qs, Near 16777216 p := by
          intro p hp
          rw [← Hq.out] at hp
          obtain ⟨j, _, rfl⟩ := List.mem_map.1 hp
          exact ptAt_near Hp.out (by decide) j
        obtain ⟨n1, n2⟩ := loPt_near hmem
        rw [hall, (loPt_first q qs).1] at h5
        rw [hall, (loPt_first q qs).2] at h6
        have HS := Lib.hid ((spreadP_dot q qs).trans HS0.out.symm)
        clear HS0
        generalize loPt q qs = lp at *
        generalize hiPt q qs = hp at *
        have c50 : _ = some (Value.int .i64 lp.x) := h5.cell 0
        have c51 : _ = some (Value.int .i64 lp.y) := h5.cell 1
        have c52 : _ = some (Value.int .i64 lp.z) := h5.cell 2
        have c60 : _ = some (Value.int .i64 hp.x) := h6.cell 0
        have c61 : _ = some (Value.int .i64 hp.y) := h6.cell 1
        have c62 : _ = some (Value.int .i64 hp.z) := h6.cell 2
        have N1 := Lib.hid n1
        have N2 := Lib.hid n2
        have N3 : Hid (Near 134217728 (subP hp lp)) := Lib.hid (by
          obtain ⟨⟨a1, a2⟩, ⟨a3, a4⟩, a5, a6⟩ := n1
          obtain ⟨⟨b1, b2⟩, ⟨b3, b4⟩, b5, b6⟩ := n2
          unfold Near subP
          simp only
          omega)
        have HBz := Lib.hid (HB1.out.trans (hB.mono hs1))
        clear hall hmem n1 n2 hB h5 h6 l5 l6
        go_wp2_with fail
        refine (minus37_any hp lp wr (near_mono N2.out (by decide)) (near_mono N1.out (by decide))).mono ?_
        rintro e w2 ⟨rfl, hB2⟩
        have HB2 := Lib.hid (HBz.out.trans (hB2.mono (by rw [← Hbk0.out]; exact HBz.out.size)))
        clear hB2 c50 c51 c52 c60 c61 c62
        go_wp2_with fail
        refine (dot12_any (subP hp lp) ⟨1, 1, 1⟩ w2 N3.out ⟨by decide, by decide, by decide⟩).mono ?_
        rintro e w3 ⟨rfl, hB3⟩
        rw [HS.out]
        have HB3 := Lib.hid (HB2.out.trans (hB3.mono (by rw [← Hbk0.out]; exact HB2.out.size)))
        clear hB3
        go_wp2
        go_ret
        exact ⟨rfl, by rw [Hbk0.out]; exact HB3.out⟩
end Go.Proofs.Ytpbpdgknjbjlcaa
