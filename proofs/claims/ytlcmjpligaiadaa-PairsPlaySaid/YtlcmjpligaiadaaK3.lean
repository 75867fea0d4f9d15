/- What a script's steps read as. -/
import Derived.Test.YtlcmjpligaiadaaWl
import Derived.Test.YtlcmjpligaiadaaK
namespace Go.Proofs.Ytlcmjpligaiadaa
open Go.RowKit Go.ChangeShapes Go.WideShapes Go.ChangeAt
set_option maxRecDepth 100000 in
theorem stp_of_trod {H : Type} {enc : TypeId × Value → H} {W : World} {base : Nat} {spare : Nat → Bool} {held : Bool} (n : Nat) (cs : List Value) (x : DataW H × List MemPlace) (h : DataW.trod enc Try.prog W base spare held n 67 cs = some x) : ∃ y : Stp, cs = encStp y ∧ GoodStp y := by
  obtain ⟨xs, m, rfl, rfl, hl, hxl, hx⟩ := DataW.trod_struct Try.underlying67 h
  have c67 : Try.prog.cellsOf 67 = 4 := by kernel_rfl
  have c3 : Try.prog.cellsOf 3 = 1 := by kernel_rfl
  have c4 : Try.prog.cellsOf 4 = 1 := by kernel_rfl
  rw [c67] at hl
  simp at hxl
  match cs, hl with
  | [a, b, c, d], _ =>
    have h0 : DataW.trod enc Try.prog W base spare held m 3 (List.take (Try.prog.cellsOf 3) (List.drop 0 [a, b, c, d])) = xs[0]? := hx 0 _ rfl
    have h1 : DataW.trod enc Try.prog W base spare held m 3 (List.take (Try.prog.cellsOf 3) (List.drop 1 [a, b, c, d])) = xs[1]? := hx 1 _ rfl
    have h2 : DataW.trod enc Try.prog W base spare held m 3 (List.take (Try.prog.cellsOf 3) (List.drop 2 [a, b, c, d])) = xs[2]? := hx 2 _ rfl
    have h3 : DataW.trod enc Try.prog W base spare held m 4 (List.take (Try.prog.cellsOf 4) (List.drop 3 [a, b, c, d])) = xs[3]? := hx 3 _ rfl
    rw [List.getElem?_eq_getElem (by omega)] at h0 h1 h2 h3
    simp only [c3, c4, List.drop_zero, List.take_succ_cons, List.take_zero, List.drop_succ_cons] at h0 h1 h2 h3
    obtain ⟨p, hp, _, wp⟩ := DataW.trod_int Try.underlying3 h0
    obtain ⟨q, hq, _, wq⟩ := DataW.trod_int Try.underlying3 h1
    obtain ⟨r, hr, _, wr⟩ := DataW.trod_int Try.underlying3 h2
    obtain ⟨s, hs, _⟩ := DataW.trod_bool Try.underlying4 h3
    simp only [List.cons.injEq, and_true] at hp hq hr hs
    subst hp; subst hq; subst hr; subst hs
    exact ⟨⟨p, q, r, s⟩, rfl, in64_of_wf wp, in64_of_wf wq, in64_of_wf wr⟩
end Go.Proofs.Ytlcmjpligaiadaa
