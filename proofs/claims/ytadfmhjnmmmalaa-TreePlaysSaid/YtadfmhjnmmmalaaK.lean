/- What elements of the laws' arguments read as; two closed facts of the program. -/
import Derived.Test.YtadfmhjnmmmalaaL3
import Derived.Test.YtadfmhjnmmmalaaO
namespace Go.Proofs.Ytadfmhjnmmmalaa
open Go.RowKit Go.ChangeShapes Go.WideShapes Go.ChangeAt
theorem own : ownKnob Try.prog.godebug = none := by kernel_rfl
theorem laidOut : laidOutB Try.prog = true := by kernel_rfl
theorem in64_of_wf {c : Int} (h : (Lit.int .i64 c).wf = true) : In64 c := by
  have := bounds_i64 h
  exact this
def encInt (n : Int) : List Value := [.int .i64 n]
theorem flat_ints (ys : List Int) : ys.flatMap encInt = ints ys := by
  induction ys with
  | nil => rfl
  | cons a ys ih => rw [List.flatMap_cons, ih]; rfl
theorem int_of_trod {H : Type} {enc : TypeId × Value → H} {W : World} {base : Nat} {spare : Nat → Bool} {held : Bool} (n : Nat) (cs : List Value) (x : DataW H × List MemPlace) (h : DataW.trod enc Try.prog W base spare held n 3 cs = some x) : ∃ y : Int, cs = encInt y ∧ In64 y := by
  obtain ⟨p, hp, _, wp⟩ := DataW.trod_int Try.underlying3 h
  exact ⟨p, hp, in64_of_wf wp⟩
def encPt (p : P3) : List Value := [.int .i64 p.1, .int .i64 p.2.1, .int .i64 p.2.2]
def GoodPt (p : P3) : Prop := In64 p.1 ∧ In64 p.2.1 ∧ In64 p.2.2
theorem flat_pts (ys : List P3) : ys.flatMap encPt = ptCells ys := rfl
theorem flat_boxes (ys : List Bx) : ys.flatMap Bx.cells = boxCells ys := rfl
set_option maxRecDepth 100000 in
theorem pt_of_trod {H : Type} {enc : TypeId × Value → H} {W : World} {base : Nat} {spare : Nat → Bool} {held : Bool} (n : Nat) (cs : List Value) (x : DataW H × List MemPlace) (h : DataW.trod enc Try.prog W base spare held n 32 cs = some x) : ∃ y : P3, cs = encPt y ∧ GoodPt y := by
  obtain ⟨xs, m, rfl, rfl, hl, hxl, hx⟩ := DataW.trod_struct Try.underlying32 h
  have c32 : Try.prog.cellsOf 32 = 3 := by kernel_rfl
  have c3 : Try.prog.cellsOf 3 = 1 := by kernel_rfl
  rw [c32] at hl
  simp at hxl
  match cs, hl with
  | [a, b, c], _ =>
    have h0 : DataW.trod enc Try.prog W base spare held m 3 (List.take (Try.prog.cellsOf 3) (List.drop 0 [a, b, c])) = xs[0]? := hx 0 _ rfl
    have h1 : DataW.trod enc Try.prog W base spare held m 3 (List.take (Try.prog.cellsOf 3) (List.drop 1 [a, b, c])) = xs[1]? := hx 1 _ rfl
    have h2 : DataW.trod enc Try.prog W base spare held m 3 (List.take (Try.prog.cellsOf 3) (List.drop 2 [a, b, c])) = xs[2]? := hx 2 _ rfl
    rw [List.getElem?_eq_getElem (by omega)] at h0 h1 h2
    simp only [c3, List.drop_zero, List.take_succ_cons, List.take_zero, List.drop_succ_cons] at h0 h1 h2
    obtain ⟨p, hp, _, wp⟩ := DataW.trod_int Try.underlying3 h0
    obtain ⟨q, hq, _, wq⟩ := DataW.trod_int Try.underlying3 h1
    obtain ⟨r, hr, _, wr⟩ := DataW.trod_int Try.underlying3 h2
    simp only [List.cons.injEq, and_true] at hp hq hr
    subst hp; subst hq; subst hr
    exact ⟨(p, q, r), rfl, in64_of_wf wp, in64_of_wf wq, in64_of_wf wr⟩
set_option maxRecDepth 100000 in
theorem box_of_trod {H : Type} {enc : TypeId × Value → H} {W : World} {base : Nat} {spare : Nat → Bool} {held : Bool} (n : Nat) (cs : List Value) (x : DataW H × List MemPlace) (h : DataW.trod enc Try.prog W base spare held n 34 cs = some x) : ∃ y : Bx, cs = y.cells ∧ InB y := by
  obtain ⟨xs, m, rfl, rfl, hl, hxl, hx⟩ := DataW.trod_struct Try.underlying34 h
  have c34 : Try.prog.cellsOf 34 = 6 := by kernel_rfl
  have c32 : Try.prog.cellsOf 32 = 3 := by kernel_rfl
  rw [c34] at hl
  simp at hxl
  match cs, hl with
  | [a, b, c, d, e, f], _ =>
    have h0 : DataW.trod enc Try.prog W base spare held m 32 (List.take (Try.prog.cellsOf 32) (List.drop 0 [a, b, c, d, e, f])) = xs[0]? := hx 0 _ rfl
    have h1 : DataW.trod enc Try.prog W base spare held m 32 (List.take (Try.prog.cellsOf 32) (List.drop 3 [a, b, c, d, e, f])) = xs[1]? := hx 1 _ rfl
    rw [List.getElem?_eq_getElem (by omega)] at h0 h1
    simp only [c32, List.drop_zero, List.take_succ_cons, List.take_zero, List.drop_succ_cons] at h0 h1
    obtain ⟨p, hp, g1, g2, g3⟩ := pt_of_trod _ _ _ h0
    obtain ⟨q, hq, g4, g5, g6⟩ := pt_of_trod _ _ _ h1
    simp only [encPt, List.cons.injEq, and_true] at hp hq
    obtain ⟨rfl, rfl, rfl⟩ := hp
    obtain ⟨rfl, rfl, rfl⟩ := hq
    exact ⟨⟨p.1, p.2.1, p.2.2, q.1, q.2.1, q.2.2⟩, rfl, g1, g2, g3, g4, g5, g6⟩
end Go.Proofs.Ytadfmhjnmmmalaa
