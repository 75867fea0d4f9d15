/- What elements of the laws' arguments read as; two closed facts of the program. -/
import Derived.Test.YtlcmjpligaiadaaW2
import Derived.Test.YtlcmjpligaiadaaO
namespace Go.Proofs.Ytlcmjpligaiadaa
open Go.RowKit Go.ChangeShapes Go.WideShapes Go.ChangeAt
theorem own : ownKnob Try.prog.godebug = none := by kernel_rfl
theorem laidOut : laidOutB Try.prog = true := by kernel_rfl
theorem in64_of_wf {c : Int} (h : (Lit.int .i64 c).wf = true) : In64 c := by
  have := bounds_i64 h
  exact this
def encInt (n : Int) : List Value := [.int .i64 n]
def encBool (n : Bool) : List Value := [.bool n]
theorem flat_ints (ys : List Int) : ys.flatMap encInt = ints ys := by
  induction ys with
  | nil => rfl
  | cons a ys ih => rw [List.flatMap_cons, ih]; rfl
theorem flat_bools (ys : List Bool) : ys.flatMap encBool = bools ys := by
  induction ys with
  | nil => rfl
  | cons a ys ih => rw [List.flatMap_cons, ih]; rfl
theorem int_of_trod {H : Type} {enc : TypeId × Value → H} {W : World} {base : Nat} {spare : Nat → Bool} {held : Bool} (n : Nat) (cs : List Value) (x : DataW H × List MemPlace) (h : DataW.trod enc Try.prog W base spare held n 3 cs = some x) : ∃ y : Int, cs = encInt y ∧ In64 y := by
  obtain ⟨p, hp, _, wp⟩ := DataW.trod_int Try.underlying3 h
  exact ⟨p, hp, in64_of_wf wp⟩
theorem bool_of_trod {H : Type} {enc : TypeId × Value → H} {W : World} {base : Nat} {spare : Nat → Bool} {held : Bool} (n : Nat) (cs : List Value) (x : DataW H × List MemPlace) (h : DataW.trod enc Try.prog W base spare held n 4 cs = some x) : ∃ y : Bool, cs = encBool y ∧ True := by
  obtain ⟨p, hp, _⟩ := DataW.trod_bool Try.underlying4 h
  exact ⟨p, hp, trivial⟩
def encPair (p : Pr) : List Value := [.int .i64 p.1, .int .i64 p.2]
theorem flat_pairs (ys : List Pr) : ys.flatMap encPair = pairCells ys := rfl
set_option maxRecDepth 100000 in
theorem pair_of_trod {H : Type} {enc : TypeId × Value → H} {W : World} {base : Nat} {spare : Nat → Bool} {held : Bool} (n : Nat) (cs : List Value) (x : DataW H × List MemPlace) (h : DataW.trod enc Try.prog W base spare held n 42 cs = some x) : ∃ y : Pr, cs = encPair y ∧ (In64 y.1 ∧ In64 y.2) := by
  obtain ⟨xs, m, rfl, rfl, hl, hxl, hx⟩ := DataW.trod_struct Try.underlying42 h
  have c42 : Try.prog.cellsOf 42 = 2 := by kernel_rfl
  have c40 : Try.prog.cellsOf 40 = 1 := by kernel_rfl
  rw [c42] at hl
  simp at hxl
  match cs, hl with
  | [a, b], _ =>
    have h0 : DataW.trod enc Try.prog W base spare held m 40 (List.take (Try.prog.cellsOf 40) (List.drop 0 [a, b])) = xs[0]? := hx 0 _ rfl
    have h1 : DataW.trod enc Try.prog W base spare held m 40 (List.take (Try.prog.cellsOf 40) (List.drop 1 [a, b])) = xs[1]? := hx 1 _ rfl
    rw [List.getElem?_eq_getElem (by omega)] at h0 h1
    simp only [c40, List.drop_zero, List.take_succ_cons, List.take_zero, List.drop_succ_cons] at h0 h1
    obtain ⟨p, hp, _, wp⟩ := DataW.trod_int Try.underlying40 h0
    obtain ⟨q, hq, _, wq⟩ := DataW.trod_int Try.underlying40 h1
    simp only [List.cons.injEq, and_true] at hp hq
    subst hp; subst hq
    exact ⟨(p, q), rfl, in64_of_wf wp, in64_of_wf wq⟩
end Go.Proofs.Ytlcmjpligaiadaa
