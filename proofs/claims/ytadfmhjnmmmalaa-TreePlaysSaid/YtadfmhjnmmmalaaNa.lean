/- Trees: Move. -/
import Derived.Test.YtadfmhjnmmmalaaN9
namespace Go.Proofs.Ytadfmhjnmmmalaa
open Go.RowKit Go.Maps
theorem guard34 : Try.prog.eqGuardType Try.prog.depth 34 = false := by kernel_rfl
theorem eqBox (a b : Bx) (w : World) : (binOp .eql 34 (boxV a) (boxV b)).run Try.prog w = .ok (.bool (decide (a = b))) w := by
  have u3 := Try.underlying3
  have a3 := Try.isAgg3
  have z3 := Try.sizeOf3
  have u32 := Try.underlying32
  have a32 := Try.isAgg32
  have z32 := Try.sizeOf32
  have hS : Try.prog.underlying 34 = some (.struct (Try.prog.fieldsOf 34)) := by kernel_rfl
  have hS2 : Try.prog.underlying 32 = some (.struct (Try.prog.fieldsOf 32)) := by kernel_rfl
  have hp : Try.prog.stoodInHeld 34 = false := by kernel_rfl
  have hp2 : Try.prog.stoodInHeld 32 = false := by kernel_rfl
  rw [run_eql_struct, show (10000 : Nat) = 9998 + 1 + 1 from rfl, run_equalIn_agg w (9998 + 1) 34 _ _ hS hp]
  simp only [Program.fieldsOf, Try.underlying34]
  go_simp
  cases a
  cases b
  simp only [Bx.mk.injEq]
  repeat' split
  all_goals simp_all
theorem neBox (a b : Bx) (w : World) : (binOp .neq 34 (boxV a) (boxV b)).run Try.prog w = .ok (.bool (!decide (a = b))) w := by
  have u3 := Try.underlying3
  have a3 := Try.isAgg3
  have z3 := Try.sizeOf3
  have u32 := Try.underlying32
  have a32 := Try.isAgg32
  have z32 := Try.sizeOf32
  have hS : Try.prog.underlying 34 = some (.struct (Try.prog.fieldsOf 34)) := by kernel_rfl
  have hS2 : Try.prog.underlying 32 = some (.struct (Try.prog.fieldsOf 32)) := by kernel_rfl
  have hp : Try.prog.stoodInHeld 34 = false := by kernel_rfl
  have hp2 : Try.prog.stoodInHeld 32 = false := by kernel_rfl
  rw [run_neq_struct, show (10000 : Nat) = 9998 + 1 + 1 from rfl, run_equalIn_agg w (9998 + 1) 34 _ _ hS hp]
  simp only [Program.fieldsOf, Try.underlying34]
  go_simp
  cases a
  cases b
  simp only [Bx.mk.injEq]
  repeat' split
  all_goals simp_all
/-- What Move answers. -/
def moveR (L : List Lf) (h : Int) (b : Bx) : Bool × Int × List Lf :=
  match boxOf L h with
  | none => (false, 81, L)
  | some old => if mayB b = false then (false, 1, L) else if joinB b old = old then (false, 0, L) else (true, 0, insL L h (grownB b))
set_option maxRecDepth 100000 in
set_option maxHeartbeats 2000000 in
theorem move14_any (t : Nat) (S : Nat → Prop) (room : Nat) (L : List Lf) (h : Int) (hh : In64 h) (b : Bx) (w : World) (hT : Tree w t S room L) :
    Calls Try.prog 14 #[.pointer (some ⟨t, 0, none⟩), .int .i64 h, boxV b] w fun e w' => e = .returned (.tuple #[.bool (moveR L h b).1, .int .i64 (moveR L h b).2.1]) ∧ ∃ S', Tree w' t S' room (moveR L h b).2.2 ∧ Turn S S' w w' := by
  have hTr := hT
  obtain ⟨vn, vf, mb, ns, fr, root, D, o, rfl, hR, hS, hT, hp, hL, hns, hr, hr2, hk⟩ := hT
  have B0 : Below w.heap.size w (w.alloc (.cells b.cells.toArray 34)) := (Below.refl _ w).alloc (Nat.le_refl _) _
  have bb := Blk.newAt (w := w) (b := w.heap.size) rfl 34 b.cells
  have hRa := hR.alloc (.cells b.cells.toArray 34)
  have hTra := hTr.below B0
  have c4 := hR.1.cell 4
  simp only [List.getElem?_cons_zero, List.getElem?_cons_succ] at c4
  have hm := hRa.2.2.2
  have hhas := tree_has hT hp h
  have htl := hR.1.lt
  unfold hasL at hhas
  go_enter Try.func14, Try.ntmps14
  cases hb : boxOf L h with
  | none =>
    rw [hb] at hhas
    simp only [Option.isSome_none] at hhas
    have Hres := Lib.hid (show moveR L h b = (false, 81, L) from by unfold moveR; rw [hb])
    go_wp2_with (at_lookup; refine wpList_lookup_own_ok_int _ rfl _ _ 69 rfl 30 3 .i64 law30 Try.underlying69 Try.underlying3 (zero3 _) mb _ D rfl hm _ _ rfl (key30 hh) ?_; intro cc hat hwc; rw [hhas])
    go_ret2
    rw [Hres.out]
    exact ⟨rfl, _, hTra, Turn.of_below _ B0⟩
  | some old =>
    rw [hb] at hhas
    simp only [Option.isSome_some] at hhas
    obtain ⟨i, hi⟩ := tree_leaf hL hp hb
    have hat0 := hT.2.1 _ hi
    have hmem := (boxOf_some hL).1 hb
    cases o with
    | none => cases hi
    | some T0 =>
      obtain ⟨c, hpl⟩ := T0.find _ hi []
      simp only [plug] at hpl
      have hMid := (show St ns fr root (some (plug c (.leaf i h old))) by rw [← hpl]; exact hS).mid
      obtain ⟨x1, -⟩ := id hMid
      simp only [Hold] at x1
      have hil := (List.getElem?_eq_some_iff.1 x1).1
      obtain ⟨g, cap, hvn⟩ := hR.nodes (fun e => by rw [e] at hil; cases hil)
      subst hvn
      obtain ⟨m, hmm⟩ : ∃ m, m = ns.length := ⟨_, rfl⟩
      have hiI : (i : Int) < (m : Int) := by omega
      have Hat := Lib.hid hat0
      have HX1 := Lib.hid x1
      have Hmm := Lib.hid hmm
      have Hb := Lib.hid hb
      clear x1 hMid hpl hmm hat0 hb
      go_wp2_with (at_lookup; refine wpList_lookup_own_ok_int _ rfl _ _ 69 rfl 30 3 .i64 law30 Try.underlying69 Try.underlying3 (zero3 _) mb _ D rfl hm _ _ rfl (key30 hh) ?_; intro cc hat hwc; rw [hhas]; obtain rfl : (i : Int) = cc := (by have h9 := (Hat.out _).symm.trans hat; injection h9 with h9; injection h9))
      refine (may30_any b _).mono ?_
      rintro e w2 ⟨rfl, B2⟩
      have BW2 := B0.trans (B2.mono B0.size)
      have hR2 := hRa.below B2
      have hTr2 := hTra.below B2
      cases hmy : mayB b with
      | false =>
        have Hres := Lib.hid (show moveR L h b = (false, 1, L) from by unfold moveR; rw [Hb.out]; simp only [hmy, if_true])
        go_wp2_with fail
        go_ret2
        rw [Hres.out]
        exact ⟨rfl, _, hTr2, Turn.of_below _ BW2⟩
      | true =>
        have bb2 := bb.below B2 (by simp)
        have c1 := hR2.1.cell 1
        simp only [List.getElem?_cons_zero, List.getElem?_cons_succ] at c1
        have hown := hR2.2.1
        rw [← Hmm.out] at hown c1
        obtain ⟨p0, p1, p2, p3, p4, p5, _⟩ := node_cells hown HX1.out
        have hg2 := own_lt hown (r := g) rfl
        have ht2 := hR2.1.lt
        have lb2 := bb2.lt
        have HQ : Hid (∀ W, Below w2.heap.size w2 W → (fun wx => wx.cell? ⟨t, 1, none⟩ = some (.slice (some ⟨g, 0, none⟩) m cap) ∧ wx.cell? ⟨w.heap.size, 0, none⟩ = some (.int .i64 b.x0) ∧ wx.cell? ⟨w.heap.size, 1, none⟩ = some (.int .i64 b.y0) ∧ wx.cell? ⟨w.heap.size, 2, none⟩ = some (.int .i64 b.z0) ∧ wx.cell? ⟨w.heap.size, 3, none⟩ = some (.int .i64 b.x1) ∧ wx.cell? ⟨w.heap.size, 4, none⟩ = some (.int .i64 b.y1) ∧ wx.cell? ⟨w.heap.size, 5, none⟩ = some (.int .i64 b.z1) ∧ wx.cell? ⟨g, i * 10, none⟩ = some (.int .i64 old.x0) ∧ wx.cell? ⟨g, i * 10 + 1, none⟩ = some (.int .i64 old.y0) ∧ wx.cell? ⟨g, i * 10 + 2, none⟩ = some (.int .i64 old.z0) ∧ wx.cell? ⟨g, i * 10 + 3, none⟩ = some (.int .i64 old.x1) ∧ wx.cell? ⟨g, i * 10 + 4, none⟩ = some (.int .i64 old.y1) ∧ wx.cell? ⟨g, i * 10 + 5, none⟩ = some (.int .i64 old.z1)) W) := Lib.hid fun W hB => ⟨(hB.cell (p := ⟨t, 1, none⟩) (by exact ht2)).trans c1, (hB.cell (p := ⟨w.heap.size, 0, none⟩) (by exact lb2)).trans (bb2.cell 0), (hB.cell (p := ⟨w.heap.size, 1, none⟩) (by exact lb2)).trans (bb2.cell 1), (hB.cell (p := ⟨w.heap.size, 2, none⟩) (by exact lb2)).trans (bb2.cell 2), (hB.cell (p := ⟨w.heap.size, 3, none⟩) (by exact lb2)).trans (bb2.cell 3), (hB.cell (p := ⟨w.heap.size, 4, none⟩) (by exact lb2)).trans (bb2.cell 4), (hB.cell (p := ⟨w.heap.size, 5, none⟩) (by exact lb2)).trans (bb2.cell 5), (hB.cell (p := ⟨g, i * 10, none⟩) (by exact hg2)).trans p0, (hB.cell (p := ⟨g, i * 10 + 1, none⟩) (by exact hg2)).trans p1, (hB.cell (p := ⟨g, i * 10 + 2, none⟩) (by exact hg2)).trans p2, (hB.cell (p := ⟨g, i * 10 + 3, none⟩) (by exact hg2)).trans p3, (hB.cell (p := ⟨g, i * 10 + 4, none⟩) (by exact hg2)).trans p4, (hB.cell (p := ⟨g, i * 10 + 5, none⟩) (by exact hg2)).trans p5⟩
        have hg34 := guard34
        have heq : ∀ W, (binOp .eql 34 (boxV (joinB b old)) (boxV old)).run Try.prog W = .ok (.bool (decide (joinB b old = old))) W := fun W => eqBox _ _ W
        have HBc := (Below.refl w2.heap.size w2).drew
        go_upto_region 6 with (fail)
        go_region_held3 (fun wx => wx.cell? ⟨t, 1, none⟩ = some (.slice (some ⟨g, 0, none⟩) m cap) ∧ wx.cell? ⟨w.heap.size, 0, none⟩ = some (.int .i64 b.x0) ∧ wx.cell? ⟨w.heap.size, 1, none⟩ = some (.int .i64 b.y0) ∧ wx.cell? ⟨w.heap.size, 2, none⟩ = some (.int .i64 b.z0) ∧ wx.cell? ⟨w.heap.size, 3, none⟩ = some (.int .i64 b.x1) ∧ wx.cell? ⟨w.heap.size, 4, none⟩ = some (.int .i64 b.y1) ∧ wx.cell? ⟨w.heap.size, 5, none⟩ = some (.int .i64 b.z1) ∧ wx.cell? ⟨g, i * 10, none⟩ = some (.int .i64 old.x0) ∧ wx.cell? ⟨g, i * 10 + 1, none⟩ = some (.int .i64 old.y0) ∧ wx.cell? ⟨g, i * 10 + 2, none⟩ = some (.int .i64 old.z0) ∧ wx.cell? ⟨g, i * 10 + 3, none⟩ = some (.int .i64 old.x1) ∧ wx.cell? ⟨g, i * 10 + 4, none⟩ = some (.int .i64 old.y1) ∧ wx.cell? ⟨g, i * 10 + 5, none⟩ = some (.int .i64 old.z1))
          (with_reducible exact HQ.out _ HBc)
          (first | (go_at_call 22; refine (join22_any _ _ _).mono ?_; rintro e w4 ⟨rfl, hB⟩; replace HBc := HBc.trans (hB.mono HBc.size)))
        have hR4 := hR2.below HBc
        have hTr4 := hTr2.below HBc
        have BW4 := BW2.trans (HBc.mono BW2.size)
        have bb4 := bb2.below HBc lb2
        clear HQ c1 p0 p1 p2 p3 p4 p5 bb2 hown
        by_cases hj : joinB b old = old
        · have hjd : decide (joinB b old = old) = true := by simpa using hj
          have Hres := Lib.hid (show moveR L h b = (false, 0, L) from by unfold moveR; rw [Hb.out]; simp only [hmy, Bool.true_eq_false, if_false, if_pos hj])
          go_wp2_with fail
          go_ret2
          rw [Hres.out]
          exact ⟨rfl, _, hTr4, Turn.of_below _ BW4⟩
        · have hjd : decide (joinB b old = old) = false := by simpa using hj
          have Hres := Lib.hid (show moveR L h b = (true, 0, insL L h (grownB b)) from by unfold moveR; rw [Hb.out]; simp only [hmy, Bool.true_eq_false, if_false, if_neg hj])
          have a0 : _ = some (Value.int .i64 b.x0) := bb4.cell 0
          have hil2 : i < ns.length := by have := Hmm.out; omega
          go_wp2_with fail
          refine (fell35_any t mb _ vf _ ns fr root _ D T0 h i old w4 hR4 hS hh hns hi Hat.out).mono ?_
          rintro e w5 ⟨rfl, ms, gr, root', vn', vf', o', hR5, hS5, hp5, hm5, hT5⟩
          obtain ⟨hF1, hF2, hF3⟩ := tree_felled hR5 hR.tidy hS5 hT hp5 hp hL hmem (by omega) hr hr2 hk
          have bb5 := bb4.mod hT5.1 (fun hf => by have := hR.lt _ hf; omega)
          clear a0 hg34 heq
          have a0 : _ = some (Value.int .i64 b.x0) := bb5.cell 0
          have a1 : _ = some (Value.int .i64 b.y0) := bb5.cell 1
          have a2 : _ = some (Value.int .i64 b.z0) := bb5.cell 2
          have a3 : _ = some (Value.int .i64 b.x1) := bb5.cell 3
          have a4 : _ = some (Value.int .i64 b.y1) := bb5.cell 4
          have a5 : _ = some (Value.int .i64 b.z1) := bb5.cell 5
          go_wp2_with fail
          refine (grown32_any b hmy w5).mono ?_
          rintro e w6 ⟨rfl, B6⟩
          have hdl : (delL L h).length + 1 = L.length := by rw [(del_perm hL hmem).length_eq, List.length_append]; rfl
          have hol : (oleaves o').length = (delL L h).length := by rw [← hF3.length_eq, List.length_map]
          go_wp2_with fail
          refine (hang31_any t mb vn' vf' _ ms gr root' _ _ o' h (grownB b) w6 (hR5.below B6) hS5 hh (by omega) (by omega) (by omega)).mono ?_
          rintro e w7 ⟨rfl, ms7, gr7, root7, vn7, vf7, j, u, hR7, hS7, hp7, hm7, hT7⟩
          go_wp2
          go_ret2
          rw [Hres.out]
          have hdk : ∀ x ∈ delL L h, In64 x.1 := fun x hx => hk x (List.mem_filter.1 hx).1
          have hTree := tree_hung hR7 hR5.tidy hS7 hF2 hp7 hF3 (del_rises hL h) del_has hm7 (by omega) hr2 hdk hh
          rw [ins_del] at hTree
          exact ⟨rfl, _, hTree, ((Turn.of_below _ BW4).trans hT5).trans ((Turn.of_below _ B6).trans hT7)⟩
end Go.Proofs.Ytadfmhjnmmmalaa
