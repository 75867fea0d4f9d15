/- Trees: TreeMisses, walked. -/
import Derived.Test.YtadfmhjnmmmalaaM2
import Derived.Test.YtadfmhjnmmmalaaQr
namespace Go.Proofs.Ytadfmhjnmmmalaa
open Go.RowKit Go.Maps
/-- What stands behind each step. -/
def MissS (w : World) (t bt bb : Nat) (wx : World) : Prop :=
  ∃ (L : List Lf) (th : List Bool) (bx : List Bx), TreeN w.heap.size wx t 64 L ∧ Blk wx bt 4 (bools th) ∧ Blk wx bb 34 (boxCells bx) ∧ Known L th bx ∧ Below w.heap.size w wx
theorem Kept.trans {a b c : World} (h : Kept a b) (k : Kept b c) : Kept a c := fun x ty vs ha hb => k x ty vs ha (h x ty vs ha hb)
theorem Kept.drew {a b : World} (h : Kept a b) : Kept a b.drew := fun x ty vs ha hb => h x ty vs ha hb
theorem apt4 : Apt 4 := .inl rfl
theorem apt34 : Apt 34 := .inr rfl
theorem eqPair (a b c d : Int) (w : World) : (binOp .eql 51 (.agg #[.int .i64 a, .int .i64 b]) (.agg #[.int .i64 c, .int .i64 d])).run Try.prog w = .ok (.bool (decide ((a, b) = (c, d)))) w := by
  have u30 := Try.underlying30
  have a30 := Try.isAgg30
  have z30 := Try.sizeOf30
  have hS : Try.prog.underlying 51 = some (.struct (Try.prog.fieldsOf 51)) := by kernel_rfl
  have hp : Try.prog.stoodInHeld 51 = false := by kernel_rfl
  rw [run_eql_struct, show (10000 : Nat) = 9999 + 1 from rfl, run_equalIn_agg w 9999 51 _ _ hS hp]
  simp only [Program.fieldsOf, Try.underlying51]
  go_simp
  by_cases h1 : a = c <;> by_cases h2 : b = d <;> simp [h1, h2]
/-- Is a pair among the first j told? -/
def toldTo (L : List Lf) (x y : Int) (j : Nat) : Bool := decide ((x, y) ∈ (pairsL L).take j)
theorem told_zero (L : List Lf) (x y : Int) : toldTo L x y 0 = false := by simp [toldTo]
theorem told_succ {L : List Lf} {x y : Int} {j : Nat} {p : Pr} (h : (pairsL L)[j]? = some p) : toldTo L x y (j + 1) = (toldTo L x y j || decide (p = (x, y))) := by
  unfold toldTo
  rw [List.take_add_one, h, Bool.eq_iff_iff]
  simp only [Option.toList_some, List.mem_append, List.mem_singleton, decide_eq_true_eq, Bool.or_eq_true]
  exact or_congr Iff.rfl eq_comm
theorem told_all {L : List Lf} (hL : Rises L) {x y : Int} (h : x < y) : toldTo L x y (pairsL L).length = toldB L x y := by
  rw [← told_iff hL h]
  unfold toldTo
  rw [List.take_length]
/-- A step that drops. -/
theorem miss_drop {w : World} {t bt bb : Nat} {wx : World} {L : List Lf} {th : List Bool} {bx : List Bx} (hT : TreeN w.heap.size wx t 64 L) (hth : Blk wx bt 4 (bools th)) (hbx : Blk wx bb 34 (boxCells bx)) (hB : Below w.heap.size w wx) (hbt : w.heap.size ≤ bt) (p : Nat) (v : Bool) (hK : Known L (th.set p v) bx) : MissS w t bt bb (wx.setCell ⟨bt, p, none⟩ (.bool v)) :=
  ⟨L, th.set p v, bx, hT.set apt4 hth p _, by rw [← bools_set]; exact hth.set p _, hbx.setCell_ne (p := ⟨bt, p, none⟩) (blk_type_ne hbx hth (by decide)) _, hK, below_set hB hB.size hbt p _⟩
/-- A step that lays a box. -/
theorem miss_lay {w : World} {t bt bb : Nat} {wx : World} {L : List Lf} {th : List Bool} {bx : List Bx} (hT : TreeN w.heap.size wx t 64 L) (hth : Blk wx bt 4 (bools th)) (hbx : Blk wx bb 34 (boxCells bx)) (hB : Below w.heap.size w wx) (hbb : w.heap.size ≤ bb) (p : Nat) (b : Bx) (hp : p < bx.length) (hK : Known L th (bx.set p b)) : MissS w t bt bb ((((((wx.setCell ⟨bb, p * 6, none⟩ (.int .i64 b.x0)).setCell ⟨bb, p * 6 + 1, none⟩ (.int .i64 b.y0)).setCell ⟨bb, p * 6 + 2, none⟩ (.int .i64 b.z0)).setCell ⟨bb, p * 6 + 3, none⟩ (.int .i64 b.x1)).setCell ⟨bb, p * 6 + 4, none⟩ (.int .i64 b.y1)).setCell ⟨bb, p * 6 + 5, none⟩ (.int .i64 b.z1)) := by
  have n1 := hbx.set (p * 6) (.int .i64 b.x0)
  have n2 := n1.set (p * 6 + 1) (.int .i64 b.y0)
  have n3 := n2.set (p * 6 + 2) (.int .i64 b.z0)
  have n4 := n3.set (p * 6 + 3) (.int .i64 b.x1)
  have n5 := n4.set (p * 6 + 4) (.int .i64 b.y1)
  have n6 := n5.set (p * 6 + 5) (.int .i64 b.z1)
  have hne : bt ≠ bb := blk_type_ne hth hbx (by decide)
  have t6 := (((((hT.set apt34 hbx (p * 6) (.int .i64 b.x0)).set apt34 n1 (p * 6 + 1) (.int .i64 b.y0)).set apt34 n2 (p * 6 + 2) (.int .i64 b.z0)).set apt34 n3 (p * 6 + 3) (.int .i64 b.x1)).set apt34 n4 (p * 6 + 4) (.int .i64 b.y1)).set apt34 n5 (p * 6 + 5) (.int .i64 b.z1)
  have h6 := (((((hth.setCell_ne (p := ⟨bb, p * 6, none⟩) hne (.int .i64 b.x0)).setCell_ne (p := ⟨bb, p * 6 + 1, none⟩) hne (.int .i64 b.y0)).setCell_ne (p := ⟨bb, p * 6 + 2, none⟩) hne (.int .i64 b.z0)).setCell_ne (p := ⟨bb, p * 6 + 3, none⟩) hne (.int .i64 b.x1)).setCell_ne (p := ⟨bb, p * 6 + 4, none⟩) hne (.int .i64 b.y1)).setCell_ne (p := ⟨bb, p * 6 + 5, none⟩) hne (.int .i64 b.z1)
  have b1 := below_set hB hB.size hbb (p * 6) (.int .i64 b.x0)
  have b2 := below_set b1 b1.size hbb (p * 6 + 1) (.int .i64 b.y0)
  have b3 := below_set b2 b2.size hbb (p * 6 + 2) (.int .i64 b.z0)
  have b4 := below_set b3 b3.size hbb (p * 6 + 3) (.int .i64 b.x1)
  have b5 := below_set b4 b4.size hbb (p * 6 + 4) (.int .i64 b.y1)
  have b6 := below_set b5 b5.size hbb (p * 6 + 5) (.int .i64 b.z1)
  rw [box_sets bx p b hp] at n6
  exact ⟨L, th, bx.set p b, t6, h6, n6, hK, b6⟩
set_option maxRecDepth 100000 in
set_option maxHeartbeats 8000000 in
theorem misses6_any (lv : Value) (n : Nat) (ss : List Stp) (w : World) (hsl : ss.length = n) (hb : Rd w lv n 8 (stpCells ss)) (hin : ∀ s ∈ ss, GoodStp s) :
    Calls Try.prog 6 #[lv] w fun e w' => e = .returned (.bool true) ∧ Below w.heap.size w w' := by
  obtain ⟨la, lc, rfl, l1, l2⟩ := hb.shape
  have Hin := Lib.hid hin
  have Hsl := Lib.hid hsl
  have Hhb := Lib.hid hb
  clear hin hsl hb
  obtain ⟨i4, e1, e2, e3, e4⟩ := info_parts info4
  obtain ⟨i34, f1, f2, f3, f4⟩ := info_parts info34
  go_enter Try.func6, Try.ntmps6
  go_wp2_with fail
  refine (awake8_any w).mono ?_
  rintro e w1 ⟨rfl, hB1⟩
  have hs1 := hB1.size
  go_wp2_with fail
  refine (new_own 64 (by decide) (by decide) w1).mono ?_
  rintro e w2 ⟨t, rfl, hT2, hB2⟩
  have hB : Below w.heap.size w w2 := hB1.trans (hB2.mono hs1)
  have hTn : TreeN w.heap.size w2 t 64 [] := by
    obtain ⟨S, h1, h2⟩ := hT2
    exact ⟨S, h1, fun j hj => Nat.le_trans hs1 (h2 j hj)⟩
  have hs2 := hB.size
  clear hB1 hs1 hT2 hB2
  go_upto_region 6 with (first
    | (at_make; refine wpList_make_full _ rfl _ _ 54 rfl w.heap.size 4 i4 (.bool false) 1 Try.underlying54 e1 e2 e3 .i64 .i64 _ _ 20 rfl rfl rfl rfl (by rw [e4]; omega) (by unfold maxLen; omega) hs2 ?_; intro w3 o3 g3)
    | go_in)
  have hb3 := own_blk o3
  rw [made_cells _ rfl] at hb3
  have B3 : Below w2.heap.size w2 w3 := ⟨g3.os, g3.tape, g3.output, g3.size, fun k hk => g3.block k hk (fun e => by cases e)⟩
  have hT3 := hTn.new B3
  have hB3 := hB.trans (B3.mono hs2)
  have hs3 := hB3.size
  clear o3 g3 hTn B3 hB
  generalize w2.heap.size = bt at *
  go_upto_region 7 with (first
    | (at_make; refine wpList_make_full _ rfl _ _ 22 rfl w.heap.size 34 i34 (.agg #[.int .i64 0, .int .i64 0, .int .i64 0, .int .i64 0, .int .i64 0, .int .i64 0]) 6 Try.underlying22 f1 f2 f3 .i64 .i64 _ _ 20 rfl rfl rfl rfl (by rw [f4]; omega) (by unfold maxLen; omega) hs3 ?_; intro w4 o4 g4)
    | go_in)
  have hb4 := own_blk o4
  rw [box_made] at hb4
  have B4 : Below w3.heap.size w3 w4 := ⟨g4.os, g4.tape, g4.output, g4.size, fun k hk => g4.block k hk (fun e => by cases e)⟩
  have hT4 := hT3.new B4
  have hB4 := hB3.trans (B4.mono hs3)
  have hb5 := hb3.below B4 hb3.lt
  have hbb := hs3
  clear o4 g4 hT3 B4 hB3 hb3 hs3 e1 e2 e3 e4 f1 f2 f3 f4 i4 i34
  generalize w3.heap.size = bb at *
  have hS0 : MissS w t bt bb w4 := ⟨[], List.replicate 20 false, List.replicate 20 noB, hT4, hb5, hb4, Known.start, hB4⟩
  clear hT4 hB4 hb4 hb5
  go_upto_block 0 with (fail)
  go_cut [] (fun wx => MissS w t bt bb wx)
  case first =>
    go_wp2_with fail
    go_loopw [8] (fun i wr => ∃ k : Nat, k ≤ n ∧ k ≤ 150 ∧ i = .int .i64 (k : Int) ∧ MissS w t bt bb wr) (fun i _ => 150 - (intOf i).toNat)
    case atStart => exact ⟨0, Nat.zero_le _, Nat.zero_le _, rfl, hS0⟩
    case round => as_aux_lemma =>
      clear hS0
      obtain ⟨k, hk, hk2, rfl, L, th, bx, hT, hth, hbx, hK, hB⟩ := hrel
      rcases (show (k < n ∧ k < 150) ∨ ¬ k < n ∨ (k < n ∧ ¬ k < 150) by omega) with ⟨hlt, hlt2⟩ | hlt | ⟨hlt, hlt2⟩
      · obtain ⟨s, hs⟩ : ∃ s, ss[k]? = some s := ⟨_, List.getElem?_eq_getElem (by rw [Hsl.out]; exact hlt)⟩
        obtain ⟨b, off, rfl⟩ := Hhb.out.addr (by omega)
        obtain ⟨⟨g1, g2⟩, ⟨g3, g4⟩, g5⟩ := Hin.out s (List.mem_of_getElem? hs)
        have Hs := Lib.hid hs
        clear hs
        obtain ⟨sw, sh, sb⟩ := s
        obtain ⟨q0, q1, q2, q3, q4, q5, q6, q7⟩ := (Hhb.out.new hB).stp (by omega) Hs.out
        simp only at g1 g2 g3 g4 g5 q0 q1 q2 q3 q4 q5 q6 q7
        have hkI : (k : Int) < (n : Int) := by omega
        have hkI2 : (k : Int) < 150 := by omega
        have Hg5 := Lib.hid g5
        clear g5
        go_wp2_with fail
        refine (pick13_any sh 20 wr g3 g4 (by decide) (by decide)).mono ?_
        rintro e w5 ⟨rfl, rfl⟩
        have hpr := pickN_range (c := sh) (n := 20) (by decide)
        obtain ⟨p, hp⟩ : ∃ p : Nat, pickN sh 20 = (p : Int) := ⟨(pickN sh 20).toNat, by omega⟩
        rw [hp] at hpr ⊢
        have hp20 : p < 20 := by omega
        have hpI : (p : Int) < 20 := by omega
        clear hpr hp
        go_wp2_with fail
        refine (box11_any sb Hg5.out wr).mono ?_
        rintro e w6 ⟨rfl, hB6⟩
        obtain ⟨c, hc⟩ : ∃ c, c = boxN sb := ⟨_, rfl⟩
        rw [← hc]
        have Hc := Lib.hid hc
        clear hc
        have hbk : Blk (w6.alloc (.cells c.cells.toArray 34)) w6.heap.size 34 c.cells := Blk.newAt rfl 34 c.cells
        have hB7 : Below wr.heap.size wr (w6.alloc (.cells c.cells.toArray 34)) := hB6.alloc hB6.size _
        go_upto_region 12 with (fail)
        obtain ⟨w7, hw7⟩ : ∃ w7, w6.alloc (.cells c.cells.toArray 34) = w7 := ⟨_, rfl⟩
        change Code.wp _ _ _ _ (w6.alloc (.cells c.cells.toArray 34))
        rw [hw7] at hbk hB7 ⊢
        clear hw7
        generalize w6.heap.size = b10 at *
        have hT7 := hT.new hB7
        have hth7 := hth.below hB7 hth.lt
        have hbx7 := hbx.below hB7 hbx.lt
        have hB7' := hB.trans (hB7.mono hB.size)
        have q0' := ((Hhb.out.new hB7').stp (by omega) Hs.out).1
        simp only at q0'
        obtain ⟨x, hx⟩ : ∃ x, x = hasL L ((p : Int) + 1) := ⟨_, rfl⟩
        have hfl : th[p]? = some x := by rw [hx]; exact hK.has hp20
        have hs7 := hB7'.size
        have Hx := Lib.hid hx
        have Hfl := Lib.hid hfl
        have HK := Lib.hid hK
        have Hth := Lib.hid hth7
        have Hbx := Lib.hid hbx7
        have HT7 := Lib.hid hT7
        have HB7 := Lib.hid hB7'
        have Hbk := Lib.hid hbk
        clear q0 q1 q2 q3 q4 q5 q6 q7 hT hth hbx hB hB6 hB7 hx hfl hK hT7 hth7 hbx7 hB7' hbk
        go_wp2_with fail
        refine (pick13_any sw 6 w7 g1 g2 (by decide) (by decide)).mono ?_
        rintro e w8 ⟨rfl, rfl⟩
        by_cases h4 : pickN sw 6 = 4
        · have e4 : (pickN sw 6 == 4) = true := by simp [h4]
          clear h4
          go_upto_region 16 with (fail)
          have HQ : Hid (∀ W, Kept w7 W → W.cell? ⟨bt, p, none⟩ = some (.bool x)) := Lib.hid fun W hW => (hW bt 4 _ apt4 Hth.out).flag Hfl.out
          have HKc : Kept w7 w7.drew := fun _ _ _ _ h => h
          have HTd := Lib.hid (HT7.out.new ((Below.refl _ w7).drew))
          have HSz : Hid (w.heap.size ≤ w7.drew.heap.size) := Lib.hid hs7
          have HBd := Lib.hid (HB7.out.drew)
          have H64 : Hid (In64 ((p : Int) + 1)) := Lib.hid (by unfold In64; omega)
          cases x
          · go_region_held3 (fun wx => wx.cell? ⟨bt, p, none⟩ = some (.bool false)) (with_reducible exact HQ.out _ HKc)
              (first | (go_at_call 16; with_reducible refine (drop_k w.heap.size t 64 L ((p : Int) + 1) H64.out _ HTd.out HSz.out).mono ?_; rintro e wn ⟨rfl, hTn, hBn, hKn⟩; rw [← Hx.out]; replace HKc := HKc.trans hKn; have HTn := Lib.hid hTn; have HBn := Lib.hid (HBd.out.trans hBn); clear hTn hBn hKn))
            have hthn := HKc bt 4 _ apt4 Hth.out
            have hbxn := HKc bb 34 _ apt34 Hbx.out
            have fz := hthn.frozen p
            have HM := Lib.hid (miss_drop HTn.out hthn hbxn HBn.out hs2 p false (HK.out.drop hp20))
            clear hthn hbxn HKc
            go_wp2
            go_roundw
            case rel => exact ⟨k + 1, by omega, by omega, by go_num, HM.out⟩
            case measure => simp [intOf]; omega
          · go_region_held3 (fun wx => wx.cell? ⟨bt, p, none⟩ = some (.bool true)) (with_reducible exact HQ.out _ HKc)
              (first | (go_at_call 16; with_reducible refine (drop_k w.heap.size t 64 L ((p : Int) + 1) H64.out _ HTd.out HSz.out).mono ?_; rintro e wn ⟨rfl, hTn, hBn, hKn⟩; rw [← Hx.out]; replace HKc := HKc.trans hKn; have HTn := Lib.hid hTn; have HBn := Lib.hid (HBd.out.trans hBn); clear hTn hBn hKn))
            have hthn := HKc bt 4 _ apt4 Hth.out
            have hbxn := HKc bb 34 _ apt34 Hbx.out
            have fz := hthn.frozen p
            have HM := Lib.hid (miss_drop HTn.out hthn hbxn HBn.out hs2 p false (HK.out.drop hp20))
            clear hthn hbxn HKc
            go_wp2
            go_roundw
            case rel => exact ⟨k + 1, by omega, by omega, by go_num, HM.out⟩
            case measure => simp [intOf]; omega
        · have e4 : (pickN sw 6 == 4) = false := by simp [h4]
          have hT7 := HT7.out
          have d0 := Hth.out.flag Hfl.out
          have c0 : _ = some (Value.int .i64 c.x0) := Hbk.out.cell 0
          have c1 : _ = some (Value.int .i64 c.y0) := Hbk.out.cell 1
          have c2 : _ = some (Value.int .i64 c.z0) := Hbk.out.cell 2
          have c3 : _ = some (Value.int .i64 c.x1) := Hbk.out.cell 3
          have c4 : _ = some (Value.int .i64 c.y1) := Hbk.out.cell 4
          have c5 : _ = some (Value.int .i64 c.z1) := Hbk.out.cell 5
          clear h4
          cases x
          · obtain ⟨p1, p2⟩ := HK.out.putR hp20 Hx.out.symm sb
            rw [← Hc.out] at p1 p2
            have hKn := p2
            have P1 := Lib.hid p1
            clear p1 p2
            go_wp2_with fail
            refine (put_k w.heap.size t 64 L ((p : Int) + 1) (by unfold In64; omega) c w7 hT7 hs7).mono ?_
            rintro e wn ⟨rfl, hTn, hBn, hkn⟩
            rw [P1.out]
            have hthn := hkn bt 4 _ apt4 Hth.out
            have hbxn := hkn bb 34 _ apt34 Hbx.out
            have hbkn := hkn b10 34 _ apt34 Hbk.out
            have HBn := Lib.hid (HB7.out.trans hBn)
            have fz := hthn.frozen p
            have d1 := hthn.flag Hfl.out
            have HTn := Lib.hid hTn
            have Hthn := Lib.hid hthn
            have Hbxn := Lib.hid hbxn
            have Hbkn := Lib.hid hbkn
            clear c0 c1 c2 c3 c4 c5 hTn hBn hkn hthn hbxn hbkn d0
            go_upto_region 24 with (fail)
            obtain ⟨ws, hws⟩ : ∃ ws, wn.setCell ⟨bt, p, none⟩ (.bool true) = ws := ⟨_, rfl⟩
            have hne1 : b10 ≠ bt := blk_type_ne Hbkn.out Hthn.out (by decide)
            have hne2 : bb ≠ bt := blk_type_ne Hbxn.out Hthn.out (by decide)
            have hbks := Hbkn.out.setCell_ne (p := ⟨bt, p, none⟩) hne1 (.bool true)
            have hbxs := Hbxn.out.setCell_ne (p := ⟨bt, p, none⟩) hne2 (.bool true)
            have hths := Hthn.out.set p (.bool true)
            have hTs := HTn.out.set apt4 Hthn.out p (.bool true)
            have hBs := below_set HBn.out HBn.out.size hs2 p (.bool true)
            rw [bools_set] at hths
            change Code.wp _ _ _ _ (wn.setCell ⟨bt, p, none⟩ (.bool true))
            rw [hws] at hbks hbxs hths hTs hBs ⊢
            clear hws fz d1
            have HM := Lib.hid (miss_lay hTs hths hbxs hBs hbb p c (by have := HK.out.2.2.2.1; omega) hKn)
            have c0 : _ = some (Value.int .i64 c.x0) := hbks.cell 0
            have c1 : _ = some (Value.int .i64 c.y0) := hbks.cell 1
            have c2 : _ = some (Value.int .i64 c.z0) := hbks.cell 2
            have c3 : _ = some (Value.int .i64 c.x1) := hbks.cell 3
            have c4 : _ = some (Value.int .i64 c.y1) := hbks.cell 4
            have c5 : _ = some (Value.int .i64 c.z1) := hbks.cell 5
            obtain ⟨ob, hob, -⟩ := HK.out.box hp20
            obtain ⟨o0, o1, o2, o3, o4, o5⟩ := hbxs.box hob
            have fz0 := hbxs.frozen (p * 6)
            have fz1 := hbxs.frozen (p * 6 + 1)
            have fz2 := hbxs.frozen (p * 6 + 2)
            have fz3 := hbxs.frozen (p * 6 + 3)
            have fz4 := hbxs.frozen (p * 6 + 4)
            have fz5 := hbxs.frozen (p * 6 + 5)
            clear hbks hbxs hths hTs hBs hKn hne1 hne2 hob
            go_wp2
            go_roundw
            case rel => exact ⟨k + 1, by omega, by omega, by go_num, HM.out⟩
            case measure => simp [intOf]; omega
          · obtain ⟨p1, p2⟩ := HK.out.move hp20 Hx.out.symm sb
            rw [← Hc.out] at p1 p2
            have hKn := p2
            have P1 := Lib.hid p1
            clear p1 p2
            go_wp2_with fail
            refine (move_k w.heap.size t 64 L ((p : Int) + 1) (by unfold In64; omega) c w7 hT7 hs7).mono ?_
            rintro e wn ⟨rfl, hTn, hBn, hkn⟩
            rw [P1.out]
            generalize (moveR L ((p : Int) + 1) c).1 = mv
            have hthn := hkn bt 4 _ apt4 Hth.out
            have hbxn := hkn bb 34 _ apt34 Hbx.out
            have hbkn := hkn b10 34 _ apt34 Hbk.out
            have HBn := Lib.hid (HB7.out.trans hBn)
            have fz := hthn.frozen p
            have d1 := hthn.flag Hfl.out
            have HTn := Lib.hid hTn
            have Hthn := Lib.hid hthn
            have Hbxn := Lib.hid hbxn
            have Hbkn := Lib.hid hbkn
            clear c0 c1 c2 c3 c4 c5 hTn hBn hkn hthn hbxn hbkn d0
            go_upto_region 24 with (fail)
            obtain ⟨ws, hws⟩ : ∃ ws, wn.setCell ⟨bt, p, none⟩ (.bool true) = ws := ⟨_, rfl⟩
            have hne1 : b10 ≠ bt := blk_type_ne Hbkn.out Hthn.out (by decide)
            have hne2 : bb ≠ bt := blk_type_ne Hbxn.out Hthn.out (by decide)
            have hbks := Hbkn.out.setCell_ne (p := ⟨bt, p, none⟩) hne1 (.bool true)
            have hbxs := Hbxn.out.setCell_ne (p := ⟨bt, p, none⟩) hne2 (.bool true)
            have hths := Hthn.out.set p (.bool true)
            have hTs := HTn.out.set apt4 Hthn.out p (.bool true)
            have hBs := below_set HBn.out HBn.out.size hs2 p (.bool true)
            rw [bools_set] at hths
            change Code.wp _ _ _ _ (wn.setCell ⟨bt, p, none⟩ (.bool true))
            rw [hws] at hbks hbxs hths hTs hBs ⊢
            clear hws fz d1
            have HM := Lib.hid (miss_lay hTs hths hbxs hBs hbb p c (by have := HK.out.2.2.2.1; omega) hKn)
            have c0 : _ = some (Value.int .i64 c.x0) := hbks.cell 0
            have c1 : _ = some (Value.int .i64 c.y0) := hbks.cell 1
            have c2 : _ = some (Value.int .i64 c.z0) := hbks.cell 2
            have c3 : _ = some (Value.int .i64 c.x1) := hbks.cell 3
            have c4 : _ = some (Value.int .i64 c.y1) := hbks.cell 4
            have c5 : _ = some (Value.int .i64 c.z1) := hbks.cell 5
            obtain ⟨ob, hob, -⟩ := HK.out.box hp20
            obtain ⟨o0, o1, o2, o3, o4, o5⟩ := hbxs.box hob
            have fz0 := hbxs.frozen (p * 6)
            have fz1 := hbxs.frozen (p * 6 + 1)
            have fz2 := hbxs.frozen (p * 6 + 2)
            have fz3 := hbxs.frozen (p * 6 + 3)
            have fz4 := hbxs.frozen (p * 6 + 4)
            have fz5 := hbxs.frozen (p * 6 + 5)
            clear hbks hbxs hths hTs hBs hKn hne1 hne2 hob
            go_wp2
            go_roundw
            case rel => exact ⟨k + 1, by omega, by omega, by go_num, HM.out⟩
            case measure => simp [intOf]; omega
      · go_wp2_with fail
        go_meet
        exact ⟨L, th, bx, hT, hth, hbx, hK, hB⟩
      · go_wp2_with fail
        go_meet
        exact ⟨L, th, bx, hT, hth, hbx, hK, hB⟩
  case rest => as_aux_lemma =>
    clear hS0
    obtain ⟨L, th, bx, hT, hth, hbx, hK, hB⟩ := hcut
    have hs := hB.size
    go_wp2_with fail
    refine (pairs_own w.heap.size t 64 L wc hT).mono ?_
    rintro e wp ⟨v, rfl, hv, hTp, hBp⟩
    have hthp := hth.below hBp hth.lt
    have hbxp := hbx.below hBp hbx.lt
    obtain ⟨P, hP⟩ : ∃ P, P = (pairsL L).length := ⟨_, rfl⟩
    rw [← hP] at hv
    obtain ⟨va, vc, rfl, v1, v2⟩ := hv.1.shape
    have HP := Lib.hid hP
    have Hv := Lib.hid hv.1
    have HT := Lib.hid hTp
    have Hth := Lib.hid hthp
    have Hbx := Lib.hid hbxp
    have HK := Lib.hid hK
    have HB := Lib.hid (hB.trans (hBp.mono hs))
    have hlt1 := hthp.lt
    have hlt2 := hbxp.lt
    have hsp := HB.out.size
    clear hT hth hbx hK hB hs hv hTp hBp hthp hbxp hP
    obtain ⟨wz, hwz⟩ : ∃ x : World, x = wp := ⟨_, rfl⟩
    clear hwz
    go_wp2_with fail
    go_loopw [15] (fun i wr => ∃ a : Nat, a ≤ 20 ∧ i = .int .i64 (a : Int) ∧ Below wp.heap.size wp wr) (fun i _ => 20 - (intOf i).toNat)
    case atStart => exact ⟨0, Nat.zero_le _, rfl, Below.refl _ _⟩
    case round =>
      obtain ⟨a, ha, rfl, hBr⟩ := hrel
      by_cases ha20 : a < 20
      · have haI : (a : Int) < 20 := by omega
        obtain ⟨wa, hwa⟩ : ∃ x : World, x = wr := ⟨_, rfl⟩
        clear hwa
        go_wp2_with fail
        go_loopg [16] (19 - a) (fun g i wx => ∃ c : Nat, g = 20 - c ∧ a < c ∧ c ≤ 20 ∧ i = .int .i64 (c : Int) ∧ Below wp.heap.size wp wx)
        case atStart => exact ⟨a + 1, by omega, by omega, by omega, by go_num, hBr⟩
        case round => as_aux_lemma =>
          clear hBr
          obtain ⟨c, hg, hac, hc, rfl, hBr⟩ := hrel
          have Hg := Lib.hid hg
          clear hg
          by_cases hc20 : c < 20
          · have hcI : (c : Int) < 20 := by omega
            have hacI : (a : Int) + 1 < (c : Int) + 1 := by omega
            have hsr := hBr.size
            have hbp : Blk (wr.alloc (.cells #[.int .i64 ((a : Int) + 1), .int .i64 ((c : Int) + 1)] 51)) wr.heap.size 51 [.int .i64 ((a : Int) + 1), .int .i64 ((c : Int) + 1)] := Blk.newAt rfl 51 [.int .i64 ((a : Int) + 1), .int .i64 ((c : Int) + 1)]
            have hBq := hBr.alloc hsr (.cells #[.int .i64 ((a : Int) + 1), .int .i64 ((c : Int) + 1)] 51)
            go_upto_region 33 with (fail)
            obtain ⟨wq, hwq⟩ : ∃ wq, wr.alloc (.cells #[.int .i64 ((a : Int) + 1), .int .i64 ((c : Int) + 1)] 51) = wq := ⟨_, rfl⟩
            change Code.wp _ _ _ _ (wr.alloc (.cells #[.int .i64 ((a : Int) + 1), .int .i64 ((c : Int) + 1)] 51))
            rw [hwq] at hbp hBq ⊢
            clear hwq
            generalize wr.heap.size = b17 at *
            have HBq := Lib.hid hBq
            have hvq := Hv.out.new hBq
            have Hbp := Lib.hid hbp
            have Hvq := Lib.hid hvq
            obtain ⟨x, hx⟩ : ∃ x : Int, x = (a : Int) + 1 := ⟨_, rfl⟩
            clear hBr hbp hBq hvq
            go_wp2_with fail
            go_loopw [18, 19] (fun h i wx => ∃ (j : Nat) (d : Nat), j ≤ P ∧ i = .int .i64 (j : Int) ∧ h = .bool (toldTo L ((a : Int) + 1) ((c : Int) + 1) j) ∧ wx = wq.drewN d) (fun _ i _ => P - (intOf i).toNat)
            case atStart => exact ⟨0, 0, Nat.zero_le _, rfl, by rw [told_zero], rfl⟩
            case round =>
              obtain ⟨j, d, hj, rfl, rfl, hwd⟩ := hrel
              by_cases hjP : j < P
              · subst hwd
                obtain ⟨p, hp⟩ : ∃ p, (pairsL L)[j]? = some p := ⟨_, List.getElem?_eq_getElem (by rw [← HP.out]; exact hjP)⟩
                have hsu := told_succ (x := (a : Int) + 1) (y := (c : Int) + 1) hp
                obtain ⟨z, hz⟩ : ∃ z, toldTo L ((a : Int) + 1) ((c : Int) + 1) j = z := ⟨_, rfl⟩
                rw [hz] at hsu ⊢
                obtain ⟨vb, vo, rfl⟩ := Hvq.out.addr (by omega)
                obtain ⟨f0, f1⟩ := Hvq.out.pair hjP hp
                obtain ⟨p1, p2⟩ := p
                simp only at f0 f1
                have hjI : (j : Int) < (P : Int) := by omega
                have HSu := Lib.hid hsu
                clear hsu hz hp
                cases z
                · have d0 : _ = some (Value.int .i64 ((a : Int) + 1)) := Hbp.out.cell 0
                  have d1 : _ = some (Value.int .i64 ((c : Int) + 1)) := Hbp.out.cell 1
                  obtain ⟨zz, hzz⟩ : ∃ zz, zz = decide ((p1, p2) = ((a : Int) + 1, (c : Int) + 1)) := ⟨_, rfl⟩
                  have heq : ∀ W, (binOp .eql 51 (.agg #[.int .i64 p1, .int .i64 p2]) (.agg #[.int .i64 ((a : Int) + 1), .int .i64 ((c : Int) + 1)])).run Try.prog W = .ok (.bool zz) W := fun W => by
                    rw [eqPair, hzz]
                  have hgd := guard51
                  have HSz : Hid (toldTo L ((a : Int) + 1) ((c : Int) + 1) (j + 1) = zz) := Lib.hid (by rw [HSu.out, hzz]; rfl)
                  clear hzz HSu
                  go_wp2
                  go_quiet (fail)
                  go_wp2
                  go_roundw
                  case rel => exact ⟨j + 1, _, by omega, by go_num, by rw [HSz.out], rfl⟩
                  case measure => simp [intOf]; omega
                · have HSz : Hid (toldTo L ((a : Int) + 1) ((c : Int) + 1) (j + 1) = true) := Lib.hid (by rw [HSu.out]; rfl)
                  clear HSu
                  go_wp2
                  go_quiet (fail)
                  go_wp2
                  go_roundw
                  case rel => exact ⟨j + 1, _, by omega, by go_num, by rw [HSz.out], rfl⟩
                  case measure => simp [intOf]; omega
              · obtain rfl : j = P := by omega
                have hBw : Below wp.heap.size wp wr := by rw [hwd]; exact Below.drewN' HBq.out d
                have ht : toldTo L ((a : Int) + 1) ((c : Int) + 1) j = toldB L ((a : Int) + 1) ((c : Int) + 1) := by
                  rw [HP.out]
                  exact told_all HK.out.1 (by omega)
                rw [ht]
                clear ht
                obtain ⟨x, hx⟩ : ∃ x, x = hasL L ((a : Int) + 1) := ⟨_, rfl⟩
                obtain ⟨y, hy⟩ : ∃ y, y = hasL L ((c : Int) + 1) := ⟨_, rfl⟩
                obtain ⟨A, hA⟩ : ∃ A, A = (boxOf L ((a : Int) + 1)).getD noB := ⟨_, rfl⟩
                obtain ⟨C, hC⟩ : ∃ C, C = (boxOf L ((c : Int) + 1)).getD noB := ⟨_, rfl⟩
                obtain ⟨ba, hba, hja⟩ := HK.out.box ha20
                obtain ⟨bc, hbc, hjc⟩ := HK.out.box hc20
                have hfa := HK.out.has ha20
                have hfc := HK.out.has hc20
                obtain ⟨tz, hto⟩ : ∃ tz, tz = toldB L ((a : Int) + 1) ((c : Int) + 1) := ⟨_, rfl⟩
                rw [← hto]
                unfold toldB at hto
                rw [← hx, ← hy, ← hA, ← hC] at hto
                rw [← hx] at hja hfa
                rw [← hy] at hjc hfc
                rw [← hA] at hja
                rw [← hC] at hjc
                have Hx := Lib.hid hx
                have Hy := Lib.hid hy
                have HA := Lib.hid hA
                have HC := Lib.hid hC
                have Hja := Lib.hid hja
                have Hjc := Lib.hid hjc
                have Hto := Lib.hid hto
                have HF : Hid (∀ W, Below wp.heap.size wp W → W.cell? ⟨bt, a, none⟩ = some (.bool x) ∧ W.cell? ⟨bt, c, none⟩ = some (.bool y)) := Lib.hid fun W hW => ⟨(Hth.out.below hW hlt1).flag hfa, (Hth.out.below hW hlt1).flag hfc⟩
                have HG : Hid (∀ W, Below wp.heap.size wp W → Blk W bb 34 (boxCells bx)) := Lib.hid fun W hW => Hbx.out.below hW hlt2
                have Hba := Lib.hid hba
                have Hbc := Lib.hid hbc
                have HBw := Lib.hid hBw
                have hsw := hBw.size
                clear hx hy hA hC hba hbc hja hjc hfa hfc hto hwd hBw
                go_upto_region 38 with (fail)
                go_cut [20] from 120 to 236 (fun v wx => v = .bool (x && y && meetB ba bc) ∧ Below wp.heap.size wp wx)
                case first => as_aux_lemma =>
                  obtain ⟨f0, f1⟩ := HF.out wr HBw.out
                  cases x
                  · go_quiet (fail)
                    go_wp2_with fail
                    go_meet
                    exact ⟨rfl, Below.drewN' HBw.out nq⟩
                  · cases y
                    · go_quiet (fail)
                      go_wp2_with fail
                      go_meet
                      exact ⟨rfl, Below.drewN' HBw.out nq⟩
                    · have HQ : Hid (∀ W, Below wr.heap.size wr W → (fun wx => wx.cell? ⟨bt, a, none⟩ = some (.bool true) ∧ wx.cell? ⟨bt, c, none⟩ = some (.bool true) ∧ wx.cell? ⟨bb, a * 6, none⟩ = some (.int .i64 ba.x0) ∧ wx.cell? ⟨bb, a * 6 + 1, none⟩ = some (.int .i64 ba.y0) ∧ wx.cell? ⟨bb, a * 6 + 2, none⟩ = some (.int .i64 ba.z0) ∧ wx.cell? ⟨bb, a * 6 + 3, none⟩ = some (.int .i64 ba.x1) ∧ wx.cell? ⟨bb, a * 6 + 4, none⟩ = some (.int .i64 ba.y1) ∧ wx.cell? ⟨bb, a * 6 + 5, none⟩ = some (.int .i64 ba.z1) ∧ wx.cell? ⟨bb, c * 6, none⟩ = some (.int .i64 bc.x0) ∧ wx.cell? ⟨bb, c * 6 + 1, none⟩ = some (.int .i64 bc.y0) ∧ wx.cell? ⟨bb, c * 6 + 2, none⟩ = some (.int .i64 bc.z0) ∧ wx.cell? ⟨bb, c * 6 + 3, none⟩ = some (.int .i64 bc.x1) ∧ wx.cell? ⟨bb, c * 6 + 4, none⟩ = some (.int .i64 bc.y1) ∧ wx.cell? ⟨bb, c * 6 + 5, none⟩ = some (.int .i64 bc.z1)) W) := Lib.hid fun W hW => by
                        have hW2 := HBw.out.trans (hW.mono hsw)
                        obtain ⟨g0, g1⟩ := HF.out W hW2
                        obtain ⟨g2, g3, g4, g5, g6, g7⟩ := (HG.out W hW2).box Hba.out
                        obtain ⟨g8, g9, g10, g11, g12, g13⟩ := (HG.out W hW2).box Hbc.out
                        exact ⟨g0, g1, g2, g3, g4, g5, g6, g7, g8, g9, g10, g11, g12, g13⟩
                      have HBc := (Below.refl wr.heap.size wr).drew
                      clear f0 f1
                      go_region_held3 (fun wx => wx.cell? ⟨bt, a, none⟩ = some (.bool true) ∧ wx.cell? ⟨bt, c, none⟩ = some (.bool true) ∧ wx.cell? ⟨bb, a * 6, none⟩ = some (.int .i64 ba.x0) ∧ wx.cell? ⟨bb, a * 6 + 1, none⟩ = some (.int .i64 ba.y0) ∧ wx.cell? ⟨bb, a * 6 + 2, none⟩ = some (.int .i64 ba.z0) ∧ wx.cell? ⟨bb, a * 6 + 3, none⟩ = some (.int .i64 ba.x1) ∧ wx.cell? ⟨bb, a * 6 + 4, none⟩ = some (.int .i64 ba.y1) ∧ wx.cell? ⟨bb, a * 6 + 5, none⟩ = some (.int .i64 ba.z1) ∧ wx.cell? ⟨bb, c * 6, none⟩ = some (.int .i64 bc.x0) ∧ wx.cell? ⟨bb, c * 6 + 1, none⟩ = some (.int .i64 bc.y0) ∧ wx.cell? ⟨bb, c * 6 + 2, none⟩ = some (.int .i64 bc.z0) ∧ wx.cell? ⟨bb, c * 6 + 3, none⟩ = some (.int .i64 bc.x1) ∧ wx.cell? ⟨bb, c * 6 + 4, none⟩ = some (.int .i64 bc.y1) ∧ wx.cell? ⟨bb, c * 6 + 5, none⟩ = some (.int .i64 bc.z1)) (with_reducible exact HQ.out _ HBc)
                        (first | (go_at_call 20; with_reducible refine (meet20_any ba bc _).mono ?_; rintro e wn ⟨rfl, hBn⟩; replace HBc := HBc.trans (hBn.mono HBc.size); clear hBn))
                      go_wp2_with fail
                      go_meet
                      exact ⟨rfl, HBw.out.trans (HBc.mono hsw)⟩
                case rest => as_aux_lemma =>
                  obtain ⟨rfl, hB1⟩ := hcut
                  obtain ⟨mz, hmz⟩ : ∃ mz, mz = (x && y && meetB ba bc) := ⟨_, rfl⟩
                  rw [← hmz]
                  have Hmz := Lib.hid hmz
                  have hTc := HT.out.new hB1
                  have hsc := hB1.size
                  have HB1 := Lib.hid hB1
                  clear hmz hB1
                  go_wp2_with fail
                  refine (wide_own w.heap.size t 64 L ((a : Int) + 1) (by unfold In64; omega) wc hTc).mono ?_
                  rintro e w5 ⟨rfl, hB5⟩
                  rw [← HA.out, ← Hx.out]
                  have hbk5 : Blk (w5.alloc (.cells A.cells.toArray 34)) w5.heap.size 34 A.cells := Blk.newAt rfl 34 A.cells
                  have hB6 : Below wc.heap.size wc (w5.alloc (.cells A.cells.toArray 34)) := hB5.alloc hB5.size _
                  have hT6 := hTc.new hB6
                  have hB6' := HB1.out.trans (hB6.mono hsc)
                  go_upto_region 40 with (fail)
                  obtain ⟨w6, hw6⟩ : ∃ w6, w5.alloc (.cells A.cells.toArray 34) = w6 := ⟨_, rfl⟩
                  change Code.wp _ _ _ _ (w5.alloc (.cells A.cells.toArray 34))
                  rw [hw6] at hbk5 hT6 hB6' ⊢
                  have hs6 := hB6'.size
                  have HB6 := Lib.hid hB6'
                  have H21' := Lib.hid hbk5
                  clear hw6 hB6 hB6' hbk5 hB5 hTc
                  generalize w5.heap.size = b21 at *
                  go_wp2_with fail
                  refine (wide_own w.heap.size t 64 L ((c : Int) + 1) (by unfold In64; omega) w6 hT6).mono ?_
                  rintro e w7 ⟨rfl, hB7⟩
                  rw [← HC.out, ← Hy.out]
                  have hbk7 : Blk (w7.alloc (.cells C.cells.toArray 34)) w7.heap.size 34 C.cells := Blk.newAt rfl 34 C.cells
                  have hB8 : Below w6.heap.size w6 (w7.alloc (.cells C.cells.toArray 34)) := hB7.alloc hB7.size _
                  have hB8' := HB6.out.trans (hB8.mono hs6)
                  have hbk8 := H21'.out.below hB8 H21'.out.lt
                  go_upto_region 41 with (fail)
                  obtain ⟨w8, hw8⟩ : ∃ w8, w7.alloc (.cells C.cells.toArray 34) = w8 := ⟨_, rfl⟩
                  change Code.wp _ _ _ _ (w7.alloc (.cells C.cells.toArray 34))
                  rw [hw8] at hbk7 hbk8 hB8' ⊢
                  have hs8 := hB8'.size
                  have HB8 := Lib.hid hB8'
                  have H21 := Lib.hid hbk8
                  have H23 := Lib.hid hbk7
                  clear hw8 hB8 hB8' hbk7 hbk8 hB7 hT6 H21'
                  generalize w7.heap.size = b23 at *
                  go_cut [218] from 120 to 236 (fun v wx => v = .bool false ∧ Below wp.heap.size wp wx ∧ Blk wx b21 34 A.cells ∧ Blk wx b23 34 C.cells)
                  case first => as_aux_lemma =>
                    have hgd := guard34
                    have hnA : ∀ W, (binOp .neq 34 (boxV A) (boxV A)).run Try.prog W = .ok (.bool false) W := fun W => by rw [neBox]; simp
                    have hnC : ∀ W, (binOp .neq 34 (boxV C) (boxV C)).run Try.prog W = .ok (.bool false) W := fun W => by rw [neBox]; simp
                    cases x
                    · cases y
                      · obtain ⟨f0, f1⟩ := HF.out w8 HB8.out
                        go_quiet (fail)
                        go_wp2_with fail
                        go_meet
                        exact ⟨rfl, Below.drewN' HB8.out nq, H21.out.drewN nq, H23.out.drewN nq⟩
                      · replace Hjc := Lib.hid (Hjc.out rfl)
                        have F0 : ∀ u : After w8, u.W.cell? ⟨bt, a, none⟩ = some (.bool false) := fun u => (HF.out u.W (HB8.out.trans (u.h.mono hs8))).1
                        have F1 : ∀ u : After w8, u.W.cell? ⟨bt, c, none⟩ = some (.bool true) := fun u => (HF.out u.W (HB8.out.trans (u.h.mono hs8))).2
                        have G0 : ∀ u : After w8, u.W.cell? ⟨b23, 0, none⟩ = some (.int .i64 C.x0) := fun u => (H23.out.below u.h H23.out.lt).cell 0
                        have G1 : ∀ u : After w8, u.W.cell? ⟨b23, 1, none⟩ = some (.int .i64 C.y0) := fun u => (H23.out.below u.h H23.out.lt).cell 1
                        have G2 : ∀ u : After w8, u.W.cell? ⟨b23, 2, none⟩ = some (.int .i64 C.z0) := fun u => (H23.out.below u.h H23.out.lt).cell 2
                        have G3 : ∀ u : After w8, u.W.cell? ⟨b23, 3, none⟩ = some (.int .i64 C.x1) := fun u => (H23.out.below u.h H23.out.lt).cell 3
                        have G4 : ∀ u : After w8, u.W.cell? ⟨b23, 4, none⟩ = some (.int .i64 C.y1) := fun u => (H23.out.below u.h H23.out.lt).cell 4
                        have G5 : ∀ u : After w8, u.W.cell? ⟨b23, 5, none⟩ = some (.int .i64 C.z1) := fun u => (H23.out.below u.h H23.out.lt).cell 5
                        have G6 : ∀ u : After w8, u.W.cell? ⟨bb, c * 6, none⟩ = some (.int .i64 bc.x0) := fun u => ((HG.out u.W (HB8.out.trans (u.h.mono hs8))).box Hbc.out).1
                        have G7 : ∀ u : After w8, u.W.cell? ⟨bb, c * 6 + 1, none⟩ = some (.int .i64 bc.y0) := fun u => ((HG.out u.W (HB8.out.trans (u.h.mono hs8))).box Hbc.out).2.1
                        have G8 : ∀ u : After w8, u.W.cell? ⟨bb, c * 6 + 2, none⟩ = some (.int .i64 bc.z0) := fun u => ((HG.out u.W (HB8.out.trans (u.h.mono hs8))).box Hbc.out).2.2.1
                        have G9 : ∀ u : After w8, u.W.cell? ⟨bb, c * 6 + 3, none⟩ = some (.int .i64 bc.x1) := fun u => ((HG.out u.W (HB8.out.trans (u.h.mono hs8))).box Hbc.out).2.2.2.1
                        have G10 : ∀ u : After w8, u.W.cell? ⟨bb, c * 6 + 4, none⟩ = some (.int .i64 bc.y1) := fun u => ((HG.out u.W (HB8.out.trans (u.h.mono hs8))).box Hbc.out).2.2.2.2.1
                        have G11 : ∀ u : After w8, u.W.cell? ⟨bb, c * 6 + 5, none⟩ = some (.int .i64 bc.z1) := fun u => ((HG.out u.W (HB8.out.trans (u.h.mono hs8))).box Hbc.out).2.2.2.2.2
                        refine wp_region_after (by kernel_rfl) (by kernel_rfl) ?_
                        repeat (go_big_quiet_step ((go_at_call 22; exact calls_after _ ((join22_any C bc _).mono (by rintro e wn ⟨rfl, hBn⟩; exact ⟨congrArg (fun b => Ending.returned (boxV b)) Hjc.out, hBn⟩)))))
                        refine wpQuiet_nil ?_
                        intro w9 hw9
                        obtain ⟨u9, rfl⟩ := hw9
                        have HU := Lib.hid u9.h
                        clear F0 F1 G0 G1 G2 G3 G4 G5 G6 G7 G8 G9 G10 G11
                        go_wp2_with fail
                        go_meet
                        exact ⟨rfl, HB8.out.trans (HU.out.mono hs8), H21.out.below HU.out H21.out.lt, H23.out.below HU.out H23.out.lt⟩
                    · cases y
                      · replace Hja := Lib.hid (Hja.out rfl)
                        have F0 : ∀ u : After w8, u.W.cell? ⟨bt, a, none⟩ = some (.bool true) := fun u => (HF.out u.W (HB8.out.trans (u.h.mono hs8))).1
                        have F1 : ∀ u : After w8, u.W.cell? ⟨bt, c, none⟩ = some (.bool false) := fun u => (HF.out u.W (HB8.out.trans (u.h.mono hs8))).2
                        have G0 : ∀ u : After w8, u.W.cell? ⟨b21, 0, none⟩ = some (.int .i64 A.x0) := fun u => (H21.out.below u.h H21.out.lt).cell 0
                        have G1 : ∀ u : After w8, u.W.cell? ⟨b21, 1, none⟩ = some (.int .i64 A.y0) := fun u => (H21.out.below u.h H21.out.lt).cell 1
                        have G2 : ∀ u : After w8, u.W.cell? ⟨b21, 2, none⟩ = some (.int .i64 A.z0) := fun u => (H21.out.below u.h H21.out.lt).cell 2
                        have G3 : ∀ u : After w8, u.W.cell? ⟨b21, 3, none⟩ = some (.int .i64 A.x1) := fun u => (H21.out.below u.h H21.out.lt).cell 3
                        have G4 : ∀ u : After w8, u.W.cell? ⟨b21, 4, none⟩ = some (.int .i64 A.y1) := fun u => (H21.out.below u.h H21.out.lt).cell 4
                        have G5 : ∀ u : After w8, u.W.cell? ⟨b21, 5, none⟩ = some (.int .i64 A.z1) := fun u => (H21.out.below u.h H21.out.lt).cell 5
                        have G6 : ∀ u : After w8, u.W.cell? ⟨bb, a * 6, none⟩ = some (.int .i64 ba.x0) := fun u => ((HG.out u.W (HB8.out.trans (u.h.mono hs8))).box Hba.out).1
                        have G7 : ∀ u : After w8, u.W.cell? ⟨bb, a * 6 + 1, none⟩ = some (.int .i64 ba.y0) := fun u => ((HG.out u.W (HB8.out.trans (u.h.mono hs8))).box Hba.out).2.1
                        have G8 : ∀ u : After w8, u.W.cell? ⟨bb, a * 6 + 2, none⟩ = some (.int .i64 ba.z0) := fun u => ((HG.out u.W (HB8.out.trans (u.h.mono hs8))).box Hba.out).2.2.1
                        have G9 : ∀ u : After w8, u.W.cell? ⟨bb, a * 6 + 3, none⟩ = some (.int .i64 ba.x1) := fun u => ((HG.out u.W (HB8.out.trans (u.h.mono hs8))).box Hba.out).2.2.2.1
                        have G10 : ∀ u : After w8, u.W.cell? ⟨bb, a * 6 + 4, none⟩ = some (.int .i64 ba.y1) := fun u => ((HG.out u.W (HB8.out.trans (u.h.mono hs8))).box Hba.out).2.2.2.2.1
                        have G11 : ∀ u : After w8, u.W.cell? ⟨bb, a * 6 + 5, none⟩ = some (.int .i64 ba.z1) := fun u => ((HG.out u.W (HB8.out.trans (u.h.mono hs8))).box Hba.out).2.2.2.2.2
                        refine wp_region_after (by kernel_rfl) (by kernel_rfl) ?_
                        repeat (go_big_quiet_step ((go_at_call 22; exact calls_after _ ((join22_any A ba _).mono (by rintro e wn ⟨rfl, hBn⟩; exact ⟨congrArg (fun b => Ending.returned (boxV b)) Hja.out, hBn⟩)))))
                        refine wpQuiet_nil ?_
                        intro w9 hw9
                        obtain ⟨u9, rfl⟩ := hw9
                        have HU := Lib.hid u9.h
                        clear F0 F1 G0 G1 G2 G3 G4 G5 G6 G7 G8 G9 G10 G11
                        go_wp2_with fail
                        go_meet
                        exact ⟨rfl, HB8.out.trans (HU.out.mono hs8), H21.out.below HU.out H21.out.lt, H23.out.below HU.out H23.out.lt⟩
                      · replace Hja := Lib.hid (Hja.out rfl)
                        replace Hjc := Lib.hid (Hjc.out rfl)
                        have F0 : ∀ u : After w8, u.W.cell? ⟨bt, a, none⟩ = some (.bool true) := fun u => (HF.out u.W (HB8.out.trans (u.h.mono hs8))).1
                        have F1 : ∀ u : After w8, u.W.cell? ⟨bt, c, none⟩ = some (.bool true) := fun u => (HF.out u.W (HB8.out.trans (u.h.mono hs8))).2
                        have G0 : ∀ u : After w8, u.W.cell? ⟨b21, 0, none⟩ = some (.int .i64 A.x0) := fun u => (H21.out.below u.h H21.out.lt).cell 0
                        have G1 : ∀ u : After w8, u.W.cell? ⟨b21, 1, none⟩ = some (.int .i64 A.y0) := fun u => (H21.out.below u.h H21.out.lt).cell 1
                        have G2 : ∀ u : After w8, u.W.cell? ⟨b21, 2, none⟩ = some (.int .i64 A.z0) := fun u => (H21.out.below u.h H21.out.lt).cell 2
                        have G3 : ∀ u : After w8, u.W.cell? ⟨b21, 3, none⟩ = some (.int .i64 A.x1) := fun u => (H21.out.below u.h H21.out.lt).cell 3
                        have G4 : ∀ u : After w8, u.W.cell? ⟨b21, 4, none⟩ = some (.int .i64 A.y1) := fun u => (H21.out.below u.h H21.out.lt).cell 4
                        have G5 : ∀ u : After w8, u.W.cell? ⟨b21, 5, none⟩ = some (.int .i64 A.z1) := fun u => (H21.out.below u.h H21.out.lt).cell 5
                        have G6 : ∀ u : After w8, u.W.cell? ⟨bb, a * 6, none⟩ = some (.int .i64 ba.x0) := fun u => ((HG.out u.W (HB8.out.trans (u.h.mono hs8))).box Hba.out).1
                        have G7 : ∀ u : After w8, u.W.cell? ⟨bb, a * 6 + 1, none⟩ = some (.int .i64 ba.y0) := fun u => ((HG.out u.W (HB8.out.trans (u.h.mono hs8))).box Hba.out).2.1
                        have G8 : ∀ u : After w8, u.W.cell? ⟨bb, a * 6 + 2, none⟩ = some (.int .i64 ba.z0) := fun u => ((HG.out u.W (HB8.out.trans (u.h.mono hs8))).box Hba.out).2.2.1
                        have G9 : ∀ u : After w8, u.W.cell? ⟨bb, a * 6 + 3, none⟩ = some (.int .i64 ba.x1) := fun u => ((HG.out u.W (HB8.out.trans (u.h.mono hs8))).box Hba.out).2.2.2.1
                        have G10 : ∀ u : After w8, u.W.cell? ⟨bb, a * 6 + 4, none⟩ = some (.int .i64 ba.y1) := fun u => ((HG.out u.W (HB8.out.trans (u.h.mono hs8))).box Hba.out).2.2.2.2.1
                        have G11 : ∀ u : After w8, u.W.cell? ⟨bb, a * 6 + 5, none⟩ = some (.int .i64 ba.z1) := fun u => ((HG.out u.W (HB8.out.trans (u.h.mono hs8))).box Hba.out).2.2.2.2.2
                        have G12 : ∀ u : After w8, u.W.cell? ⟨b23, 0, none⟩ = some (.int .i64 C.x0) := fun u => (H23.out.below u.h H23.out.lt).cell 0
                        have G13 : ∀ u : After w8, u.W.cell? ⟨b23, 1, none⟩ = some (.int .i64 C.y0) := fun u => (H23.out.below u.h H23.out.lt).cell 1
                        have G14 : ∀ u : After w8, u.W.cell? ⟨b23, 2, none⟩ = some (.int .i64 C.z0) := fun u => (H23.out.below u.h H23.out.lt).cell 2
                        have G15 : ∀ u : After w8, u.W.cell? ⟨b23, 3, none⟩ = some (.int .i64 C.x1) := fun u => (H23.out.below u.h H23.out.lt).cell 3
                        have G16 : ∀ u : After w8, u.W.cell? ⟨b23, 4, none⟩ = some (.int .i64 C.y1) := fun u => (H23.out.below u.h H23.out.lt).cell 4
                        have G17 : ∀ u : After w8, u.W.cell? ⟨b23, 5, none⟩ = some (.int .i64 C.z1) := fun u => (H23.out.below u.h H23.out.lt).cell 5
                        have G18 : ∀ u : After w8, u.W.cell? ⟨bb, c * 6, none⟩ = some (.int .i64 bc.x0) := fun u => ((HG.out u.W (HB8.out.trans (u.h.mono hs8))).box Hbc.out).1
                        have G19 : ∀ u : After w8, u.W.cell? ⟨bb, c * 6 + 1, none⟩ = some (.int .i64 bc.y0) := fun u => ((HG.out u.W (HB8.out.trans (u.h.mono hs8))).box Hbc.out).2.1
                        have G20 : ∀ u : After w8, u.W.cell? ⟨bb, c * 6 + 2, none⟩ = some (.int .i64 bc.z0) := fun u => ((HG.out u.W (HB8.out.trans (u.h.mono hs8))).box Hbc.out).2.2.1
                        have G21 : ∀ u : After w8, u.W.cell? ⟨bb, c * 6 + 3, none⟩ = some (.int .i64 bc.x1) := fun u => ((HG.out u.W (HB8.out.trans (u.h.mono hs8))).box Hbc.out).2.2.2.1
                        have G22 : ∀ u : After w8, u.W.cell? ⟨bb, c * 6 + 4, none⟩ = some (.int .i64 bc.y1) := fun u => ((HG.out u.W (HB8.out.trans (u.h.mono hs8))).box Hbc.out).2.2.2.2.1
                        have G23 : ∀ u : After w8, u.W.cell? ⟨bb, c * 6 + 5, none⟩ = some (.int .i64 bc.z1) := fun u => ((HG.out u.W (HB8.out.trans (u.h.mono hs8))).box Hbc.out).2.2.2.2.2
                        refine wp_region_after (by kernel_rfl) (by kernel_rfl) ?_
                        iterate 23 (go_big_quiet_step ((go_at_call 22; exact calls_after _ ((join22_any A ba _).mono (by rintro e wn ⟨rfl, hBn⟩; exact ⟨congrArg (fun b => Ending.returned (boxV b)) Hja.out, hBn⟩)))))
                        repeat (go_big_quiet_step ((go_at_call 22; exact calls_after _ ((join22_any C bc _).mono (by rintro e wn ⟨rfl, hBn⟩; exact ⟨congrArg (fun b => Ending.returned (boxV b)) Hjc.out, hBn⟩)))))
                        refine wpQuiet_nil ?_
                        intro w9 hw9
                        obtain ⟨u9, rfl⟩ := hw9
                        have HU := Lib.hid u9.h
                        clear F0 F1 G0 G1 G2 G3 G4 G5 G6 G7 G8 G9 G10 G11 G12 G13 G14 G15 G16 G17 G18 G19 G20 G21 G22 G23
                        go_wp2_with fail
                        go_meet
                        exact ⟨rfl, HB8.out.trans (HU.out.mono hs8), H21.out.below HU.out H21.out.lt, H23.out.below HU.out H23.out.lt⟩
                  case rest => as_aux_lemma =>
                    clear H21 H23 HB8
                    obtain ⟨rfl, hB9, h21, h23⟩ := hcut
                    cases x
                    · have e1 : mz = false := by rw [Hmz.out]; rfl
                      have e2 : tz = false := by rw [Hto.out]; rfl
                      subst e1
                      subst e2
                      clear Hmz Hto
                      go_wp2
                      go_roundg (20 - (c + 1))
                      case rel => exact ⟨c + 1, rfl, by omega, by omega, by go_num, hB9⟩
                      case measure => have := Hg.out; omega
                    · cases y
                      · have e1 : mz = false := by rw [Hmz.out]; rfl
                        have e2 : tz = false := by rw [Hto.out]; rfl
                        subst e1
                        subst e2
                        clear Hmz Hto
                        go_wp2
                        go_roundg (20 - (c + 1))
                        case rel => exact ⟨c + 1, rfl, by omega, by omega, by go_num, hB9⟩
                        case measure => have := Hg.out; omega
                      · have e1 : mz = meetB ba bc := by rw [Hmz.out]; rfl
                        have e2 : tz = meetB A C := by rw [Hto.out]; rfl
                        have e3 : mz = true → tz = true := fun h => by
                          rw [e2]
                          exact meet_wide (Hja.out rfl) (Hjc.out rfl) (by rw [← e1]; exact h)
                        have a0 : _ = some (Value.int .i64 A.x0) := h21.cell 0
                        have a1 : _ = some (Value.int .i64 A.y0) := h21.cell 1
                        have a2 : _ = some (Value.int .i64 A.z0) := h21.cell 2
                        have a3 : _ = some (Value.int .i64 A.x1) := h21.cell 3
                        have a4 : _ = some (Value.int .i64 A.y1) := h21.cell 4
                        have a5 : _ = some (Value.int .i64 A.z1) := h21.cell 5
                        have c0 : _ = some (Value.int .i64 C.x0) := h23.cell 0
                        have c1 : _ = some (Value.int .i64 C.y0) := h23.cell 1
                        have c2 : _ = some (Value.int .i64 C.z0) := h23.cell 2
                        have c3 : _ = some (Value.int .i64 C.x1) := h23.cell 3
                        have c4 : _ = some (Value.int .i64 C.y1) := h23.cell 4
                        have c5 : _ = some (Value.int .i64 C.z1) := h23.cell 5
                        have E2 := Lib.hid e2
                        have hs9 := hB9.size
                        have HB9 := Lib.hid hB9
                        clear e1 e2 h21 h23 hB9 Hmz Hto
                        cases tz
                        · have e4 : mz = false := by
                            cases mz
                            · rfl
                            · exact (e3 rfl).symm
                          subst e4
                          clear e3
                          go_wp2_with fail
                          refine (meet20_any A C wc).mono ?_
                          rintro e w9 ⟨rfl, hB10⟩
                          rw [← E2.out]
                          have HB10 := Lib.hid (HB9.out.trans (hB10.mono hs9))
                          clear hB10
                          go_wp2
                          go_roundg (20 - (c + 1))
                          case rel => exact ⟨c + 1, rfl, by omega, by omega, by go_num, HB10.out⟩
                          case measure => have := Hg.out; omega
                        · clear e3
                          cases mz
                          all_goals
                            go_wp2_with fail
                            refine (meet20_any A C wc).mono ?_
                            rintro e w9 ⟨rfl, hB10⟩
                            rw [← E2.out]
                            have HB10 := Lib.hid (HB9.out.trans (hB10.mono hs9))
                            clear hB10
                            go_wp2
                            go_roundg (20 - (c + 1))
                            case rel => exact ⟨c + 1, rfl, by omega, by omega, by go_num, HB10.out⟩
                            case measure => have := Hg.out; omega
          · obtain rfl : c = 20 := by omega
            go_wp2
            go_roundw
            case rel => exact ⟨a + 1, by omega, by go_num, hBr⟩
            case measure => simp [intOf]; omega
      · obtain rfl : a = 20 := by omega
        go_wp2
        go_ret
        exact ⟨rfl, HB.out.trans (hBr.mono hsp)⟩
end Go.Proofs.Ytadfmhjnmmmalaa
