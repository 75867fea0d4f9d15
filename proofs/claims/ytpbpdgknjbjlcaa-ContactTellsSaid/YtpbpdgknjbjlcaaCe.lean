/- Contacts: whether a core may be, by the reference. -/
import Derived.Test.YtpbpdgknjbjlcaaCd
namespace Go.Proofs.Ytpbpdgknjbjlcaa
open Go.RowKit
set_option maxRecDepth 100000 in
theorem may21_walk (pv av ev : Value) (np na ne : Nat) (c : Cor) (w : World) (hp : c.P.length = np) (ha : c.A.length = na) (he : c.E.length = ne) (vp : Rd w pv np 3 (ptCells c.P)) (va : Rd w av na 3 (ptCells c.A)) (ve : Rd w ev ne 3 (ptCells c.E)) :
    Calls Try.prog 21 #[corV pv av ev c.r] w fun e w' => e = .returned (.bool (decide (1 ≤ np) && decide (np ≤ 32) && decide (na ≤ 128) && decide (ne ≤ 128) && decide (0 ≤ c.r) && decide (c.r ≤ 65536) && c.P.all (nearB 16777216) && c.A.all (nearB 1048576) && c.E.all (nearB 1048576))) ∧ Below w.heap.size w w' := by
  obtain ⟨ap, cp, rfl, p1, p2⟩ := vp.shape
  obtain ⟨aa, ca, rfl, a1, a2⟩ := va.shape
  obtain ⟨ae, ce, rfl, e1, e2⟩ := ve.shape
  have B0 : Below w.heap.size w (w.alloc (.cells #[.slice ap np cp, .slice aa na ca, .slice ae ne ce, .int .i64 c.r] 24)) := (Below.refl _ w).alloc (Nat.le_refl _) _
  have hbk := Blk.newAt (w := w) (b := w.heap.size) rfl 24 [.slice ap np cp, .slice aa na ca, .slice ae ne ce, .int .i64 c.r]
  have VP := Lib.hid vp
  have VA := Lib.hid va
  have VE := Lib.hid ve
  have LP := Lib.hid hp
  have LA := Lib.hid ha
  have LE := Lib.hid he
  clear vp va ve hp ha he
  by_cases hok : 1 ≤ np ∧ np ≤ 32 ∧ na ≤ 128 ∧ ne ≤ 128 ∧ 0 ≤ c.r ∧ c.r ≤ 65536
  case neg =>
    have hb : (decide (1 ≤ np) && decide (np ≤ 32) && decide (na ≤ 128) && decide (ne ≤ 128) && decide (0 ≤ c.r) && decide (c.r ≤ 65536) && c.P.all (nearB 16777216) && c.A.all (nearB 1048576) && c.E.all (nearB 1048576)) = false := by
      rw [Bool.eq_false_iff]
      intro h
      simp only [Bool.and_eq_true, decide_eq_true_eq] at h
      exact hok ⟨h.1.1.1.1.1.1.1.1, h.1.1.1.1.1.1.1.2, h.1.1.1.1.1.1.2, h.1.1.1.1.1.2, h.1.1.1.1.2, h.1.1.1.2⟩
    have HBk := Lib.hid hb
    have HB0 := Lib.hid B0
    clear B0 hb
    go_enter Try.func21, Try.ntmps21
    go_wp2
    all_goals (first | (exfalso; omega) | (go_ret; exact ⟨ret_bool HBk.out.symm, HB0.out⟩))
  case pos =>
    obtain ⟨h1, h2, h3, h4, h5, h6⟩ := hok
    have hb : (decide (1 ≤ np) && decide (np ≤ 32) && decide (na ≤ 128) && decide (ne ≤ 128) && decide (0 ≤ c.r) && decide (c.r ≤ 65536) && c.P.all (nearB 16777216) && c.A.all (nearB 1048576) && c.E.all (nearB 1048576)) = (c.P.all (nearB 16777216) && c.A.all (nearB 1048576) && c.E.all (nearB 1048576)) := by
      simp only [decide_eq_true h1, decide_eq_true h2, decide_eq_true h3, decide_eq_true h4, decide_eq_true h5, decide_eq_true h6, Bool.true_and]
    rw [hb]
    have hs := B0.size
    have HB0 := Lib.hid B0
    have Hbk := Lib.hid hbk
    clear B0 hb hbk
    have c0 : _ = some (Value.slice ap np cp) := Hbk.out.cell 0
    have c1 : _ = some (Value.slice aa na ca) := Hbk.out.cell 1
    have c2 : _ = some (Value.slice ae ne ce) := Hbk.out.cell 2
    have c3 : _ = some (Value.int .i64 c.r) := Hbk.out.cell 3
    go_enter Try.func21, Try.ntmps21
    go_wp2_with fail
    refine (all44_any (.slice ap np cp) np c.P 16777216 _ LP.out (VP.out.new HB0.out) (by decide) (by decide)).mono ?_
    rintro e w2 ⟨rfl, hB2⟩
    have HB2 := Lib.hid (HB0.out.trans (hB2.mono hs))
    have hb2 := Hbk.out.below hB2 Hbk.out.lt
    clear hB2 c0 c1 c2 c3
    have c1 : _ = some (Value.slice aa na ca) := hb2.cell 1
    have c2 : _ = some (Value.slice ae ne ce) := hb2.cell 2
    go_wp2_with fail
    refine (all44_any (.slice aa na ca) na c.A 1048576 _ LA.out (VA.out.new HB2.out) (by decide) (by decide)).mono ?_
    rintro e w3 ⟨rfl, hB3⟩
    have HB3 := Lib.hid (HB2.out.trans (hB3.mono HB2.out.size))
    have hb3 := hb2.below hB3 hb2.lt
    clear hB3 c1 c2 hb2
    have c2 : _ = some (Value.slice ae ne ce) := hb3.cell 2
    go_wp2_with fail
    refine (all44_any (.slice ae ne ce) ne c.E 1048576 _ LE.out (VE.out.new HB3.out) (by decide) (by decide)).mono ?_
    rintro e w4 ⟨rfl, hB4⟩
    have HB4 := Lib.hid (HB3.out.trans (hB4.mono HB3.out.size))
    clear hB4 c2 hb3
    cases h7 : c.P.all (nearB 16777216) <;> cases h8 : c.A.all (nearB 1048576) <;> cases h9 : c.E.all (nearB 1048576)
    all_goals (have H7 := Lib.hid h7; have H8 := Lib.hid h8; have H9 := Lib.hid h9; clear h7 h8 h9; go_wp2; go_ret; exact ⟨ret_bool (by rw [H7.out, H8.out, H9.out]; rfl), HB4.out⟩)
theorem may21_any (pv av ev : Value) (c : Cor) (w : World) (vp : Rd w pv c.P.length 3 (ptCells c.P)) (va : Rd w av c.A.length 3 (ptCells c.A)) (ve : Rd w ev c.E.length 3 (ptCells c.E)) :
    Calls Try.prog 21 #[corV pv av ev c.r] w fun e w' => e = .returned (.bool (mayB c)) ∧ Below w.heap.size w w' := may21_walk pv av ev _ _ _ c w rfl rfl rfl vp va ve
end Go.Proofs.Ytpbpdgknjbjlcaa
