/- EventPlays: the script's steps read; whatever room. -/
import Derived.Test.YtlcmjpligaiadaaK4
import Derived.Test.YtlcmjpligaiadaaEh
namespace Go.Proofs.Ytlcmjpligaiadaa
open Go.RowKit Go.ChangeShapes Go.WideShapes Go.Deep Go.ChangeAt
set_option maxRecDepth 100000 in
theorem est_of_trod {H : Type} {enc : TypeId × Value → H} {W : World} {base : Nat} {spare : Nat → Bool} {held : Bool} (n : Nat) (cs : List Value) (x : DataW H × List MemPlace) (h : DataW.trod enc Try.prog W base spare held n 81 cs = some x) : ∃ y : ESt, cs = encESt y ∧ GoodESt W y := by
  obtain ⟨xs, m, rfl, rfl, hl, hxl, hx⟩ := DataW.trod_struct Try.underlying81 h
  have c81 : Try.prog.cellsOf 81 = 2 := by kernel_rfl
  have c3 : Try.prog.cellsOf 3 = 1 := by kernel_rfl
  have c53 : Try.prog.cellsOf 53 = 1 := by kernel_rfl
  rw [c81] at hl
  simp at hxl
  match cs, hl with
  | [a, b], _ =>
    have h0 : DataW.trod enc Try.prog W base spare held m 3 (List.take (Try.prog.cellsOf 3) (List.drop 0 [a, b])) = xs[0]? := hx 0 _ rfl
    have h1 : DataW.trod enc Try.prog W base spare held m 53 (List.take (Try.prog.cellsOf 53) (List.drop 1 [a, b])) = xs[1]? := hx 1 _ rfl
    rw [List.getElem?_eq_getElem (by omega)] at h0 h1
    simp only [c3, c53, List.drop_zero, List.take_succ_cons, List.take_zero, List.drop_succ_cons] at h0 h1
    obtain ⟨p, hp, _, wp⟩ := DataW.trod_int Try.underlying3 h0
    obtain ⟨y, hy, k, hk1, hk2, _⟩ := evs_of_trod _ _ _ h1
    simp only [List.cons.injEq, and_true] at hp hy
    subst hp; subst hy
    exact ⟨⟨p, y.1, y.2⟩, rfl, in64_of_wf wp, k, hk1, hk2⟩
theorem ests_of_trod {H : Type} {enc : TypeId × Value → H} {W : World} {base : Nat} {spare : Nat → Bool} {held : Bool} {a : Option Addr} {len cap : Nat} {d : DataW H} {p : List MemPlace}
    (h : DataW.Trod enc Try.prog W base spare held 76 (.slice a len cap) d p) :
    (∃ ys : List ESt, ys.length = len ∧ Rd W (.slice a len cap) len 2 (estCells ys) ∧ ∀ y ∈ ys, GoodESt W y) ∧ ((d = .nil ∧ len = 0) ∨ ∃ el sp, d = .slice el sp ∧ el.length = len) :=
  rd_of_trod encESt (GoodESt W) (sz := 2) Try.underlying76 (by kernel_rfl) (by decide) (fun _ => rfl) (fun n cs x h => est_of_trod n cs x h) h
theorem eplay_any (room : Int) (sv : Value) (n : Nat) (ss : List ESt) (hl : ss.length = n) (w : World) (hr : Rd w sv n 2 (estCells ss)) (hg : ∀ x ∈ ss, GoodESt w x) :
    Calls Try.prog 10 #[.int .i64 room, sv] w fun e w' => e = .returned (.bool true) ∧ Below w.heap.size w w' := by
  by_cases h : room < 1 ∨ 1024 < room
  · exact eplay_bad room h sv w
  · obtain ⟨R, rfl⟩ := Int.eq_ofNat_of_zero_le (show 0 ≤ room by omega)
    exact eplay_ok R (by omega) (by omega) sv n ss hl w hr hg
end Go.Proofs.Ytlcmjpligaiadaa
