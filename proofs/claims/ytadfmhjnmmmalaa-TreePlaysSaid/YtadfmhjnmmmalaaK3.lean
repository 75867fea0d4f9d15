/- Trees: what a script's steps read as. -/
import Derived.Test.YtadfmhjnmmmalaaK
import Derived.Test.YtadfmhjnmmmalaaM2
namespace Go.Proofs.Ytadfmhjnmmmalaa
open Go.RowKit Go.ChangeShapes Go.WideShapes Go.ChangeAt
theorem flat_stps (ys : List Stp) : ys.flatMap encStp = stpCells ys := rfl
set_option maxRecDepth 100000 in
theorem stp_of_trod {H : Type} {enc : TypeId × Value → H} {W : World} {base : Nat} {spare : Nat → Bool} {held : Bool} (n : Nat) (cs : List Value) (x : DataW H × List MemPlace) (h : DataW.trod enc Try.prog W base spare held n 56 cs = some x) : ∃ y : Stp, cs = encStp y ∧ GoodStp y := by
  obtain ⟨xs, m, rfl, rfl, hl, hxl, hx⟩ := DataW.trod_struct Try.underlying56 h
  have c56 : Try.prog.cellsOf 56 = 8 := by kernel_rfl
  have c34 : Try.prog.cellsOf 34 = 6 := by kernel_rfl
  have c3 : Try.prog.cellsOf 3 = 1 := by kernel_rfl
  rw [c56] at hl
  simp at hxl
  match cs, hl with
  | [p0, p1, a, b, c, d, e, f], _ =>
    have h0 : DataW.trod enc Try.prog W base spare held m 3 (List.take (Try.prog.cellsOf 3) (List.drop 0 [p0, p1, a, b, c, d, e, f])) = xs[0]? := hx 0 _ rfl
    have h1 : DataW.trod enc Try.prog W base spare held m 3 (List.take (Try.prog.cellsOf 3) (List.drop 1 [p0, p1, a, b, c, d, e, f])) = xs[1]? := hx 1 _ rfl
    have h2 : DataW.trod enc Try.prog W base spare held m 34 (List.take (Try.prog.cellsOf 34) (List.drop 2 [p0, p1, a, b, c, d, e, f])) = xs[2]? := hx 2 _ rfl
    rw [List.getElem?_eq_getElem (by omega)] at h0 h1 h2
    simp only [c3, c34, List.drop_zero, List.take_succ_cons, List.take_zero, List.drop_succ_cons] at h0 h1 h2
    obtain ⟨p, hp, _, wp⟩ := DataW.trod_int Try.underlying3 h0
    obtain ⟨q, hq, _, wq⟩ := DataW.trod_int Try.underlying3 h1
    obtain ⟨y, hy, gy⟩ := box_of_trod _ _ _ h2
    simp only [List.cons.injEq, and_true] at hp hq
    subst hp
    subst hq
    unfold Bx.cells at hy
    simp only [List.cons.injEq, and_true] at hy
    obtain ⟨rfl, rfl, rfl, rfl, rfl, rfl⟩ := hy
    exact ⟨(p, q, y), rfl, in64_of_wf wp, in64_of_wf wq, gy⟩
end Go.Proofs.Ytadfmhjnmmmalaa
