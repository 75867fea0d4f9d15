/- Contacts: both answers as one, the document's second example, the statement's walk. -/
import Derived.Test.YtpbpdgknjbjlcaaDg
import Derived.Test.YtpbpdgknjbjlcaaDh
import Derived.Test.YtpbpdgknjbjlcaaDi
import Derived.Test.YtpbpdgknjbjlcaaDj
import Derived.Test.YtpbpdgknjbjlcaaDo
import Derived.Test.YtpbpdgknjbjlcaaDk
import Derived.Test.YtpbpdgknjbjlcaaSm
namespace Go.Proofs.Ytpbpdgknjbjlcaa
open Go.RowKit
/-- What Touch tells. -/
def TOut (a b : Cor) (n : Pt) (gap within : Int) (p : Pt) (ok : Bool) (l : List Sp) : Prop :=
  ((goB a b n gap within = false ∨ spotsP a b n within = []) ∧ p = ⟨0, 0, 0⟩ ∧ ok = false ∧ l = []) ∨ (goB a b n gap within = true ∧ spotsP a b n within ≠ [] ∧ p = n ∧ ok = true ∧ IsFour (spotsP a b n within) l)
theorem tout_one {a b : Cor} {n : Pt} {gap within : Int} {p q : Pt} {ok is : Bool} {l m : List Sp} (h : TOut a b n gap within p ok l) (k : TOut a b n gap within q is m) : p = q ∧ ok = is ∧ l = m := by
  rcases h with ⟨h1, rfl, rfl, rfl⟩ | ⟨h1, h2, rfl, rfl, h3⟩
  · rcases k with ⟨-, rfl, rfl, rfl⟩ | ⟨k1, k2, -⟩
    · exact ⟨rfl, rfl, rfl⟩
    · rcases h1 with h1 | h1
      · rw [h1] at k1; cases k1
      · exact absurd h1 k2
  · rcases k with ⟨k1, -⟩ | ⟨k1, k2, rfl, rfl, k3⟩
    · rcases k1 with k1 | k1
      · rw [h1] at k1; cases k1
      · exact absurd k1 h2
    · exact ⟨rfl, rfl, four_one h3 k3⟩
theorem touch6_yes (pva ava eva pvb avb evb : Value) (a b : Cor) (n : Pt) (gap within : Int) (w : World) (pa : Rd w pva a.P.length 3 (ptCells a.P)) (aa : Rd w ava a.A.length 3 (ptCells a.A)) (ea : Rd w eva a.E.length 3 (ptCells a.E)) (pb : Rd w pvb b.P.length 3 (ptCells b.P)) (ab : Rd w avb b.A.length 3 (ptCells b.A)) (eb : Rd w evb b.E.length 3 (ptCells b.E)) (hw : -1099511627776 < within ∧ within < 1099511627776) (hgo : goB a b n gap within = true) :
    Calls Try.prog 6 #[corV pva ava eva a.r, corV pvb avb evb b.r, apV n gap, .int .i64 within] w fun e w' => ((spotsP a b n within = [] ∧ e = .returned (.tuple #[patV ⟨0, 0, 0⟩ (.slice none 0 0), .bool false])) ∨ (spotsP a b n within ≠ [] ∧ ∃ v r, IsFour (spotsP a b n within) r ∧ Rd w' v r.length 5 (spCells r) ∧ e = .returned (.tuple #[patV n v, .bool true]))) ∧ Below w.heap.size w w' := by
  by_cases hlt : spreadL ((fronA a n).map (ptAt a.P)) < spreadL ((fronB b n).map (ptAt b.P))
  · exact touch6_A pva ava eva pvb avb evb a b n gap within w pa aa ea pb ab eb hw hgo hlt
  · exact touch6_B pva ava eva pvb avb evb a b n gap within w pa aa ea pb ab eb hw hgo hlt
theorem touch5_yes (pva ava eva pvb avb evb : Value) (a b : Cor) (n : Pt) (gap within : Int) (w : World) (pa : Rd w pva a.P.length 3 (ptCells a.P)) (aa : Rd w ava a.A.length 3 (ptCells a.A)) (ea : Rd w eva a.E.length 3 (ptCells a.E)) (pb : Rd w pvb b.P.length 3 (ptCells b.P)) (ab : Rd w avb b.A.length 3 (ptCells b.A)) (eb : Rd w evb b.E.length 3 (ptCells b.E)) (hw : -1099511627776 < within ∧ within < 1099511627776) (hgo : goB a b n gap within = true) :
    Calls Try.prog 5 #[corV pva ava eva a.r, corV pvb avb evb b.r, apV n gap, .int .i64 within] w fun e w' => ((spotsP a b n within = [] ∧ e = .returned (.tuple #[patV ⟨0, 0, 0⟩ (.slice none 0 0), .bool false])) ∨ (spotsP a b n within ≠ [] ∧ ∃ v r, IsFour (spotsP a b n within) r ∧ Rd w' v r.length 5 (spCells r) ∧ e = .returned (.tuple #[patV n v, .bool true]))) ∧ Below w.heap.size w w' := by
  by_cases hlt : spreadL ((fronA a n).map (ptAt a.P)) < spreadL ((fronB b n).map (ptAt b.P))
  · exact touch5_A pva ava eva pvb avb evb a b n gap within w pa aa ea pb ab eb hw hgo hlt
  · exact touch5_B pva ava eva pvb avb evb a b n gap within w pa aa ea pb ab eb hw hgo hlt
theorem touch5_any (pva ava eva pvb avb evb : Value) (a b : Cor) (n : Pt) (gap within : Int) (w : World) (pa : Rd w pva a.P.length 3 (ptCells a.P)) (aa : Rd w ava a.A.length 3 (ptCells a.A)) (ea : Rd w eva a.E.length 3 (ptCells a.E)) (pb : Rd w pvb b.P.length 3 (ptCells b.P)) (ab : Rd w avb b.A.length 3 (ptCells b.A)) (eb : Rd w evb b.E.length 3 (ptCells b.E)) (hw : -1099511627776 < within ∧ within < 1099511627776) :
    Calls Try.prog 5 #[corV pva ava eva a.r, corV pvb avb evb b.r, apV n gap, .int .i64 within] w fun e w' => (∃ p v ok l, TOut a b n gap within p ok l ∧ Rd w' v l.length 5 (spCells l) ∧ e = .returned (.tuple #[patV p v, .bool ok])) ∧ Below w.heap.size w w' := by
  cases hgo : goB a b n gap within with
  | false =>
    refine (touch5_no pva ava eva pvb avb evb a b n gap within w pa aa ea pb ab eb hgo).mono ?_
    rintro e w' ⟨rfl, hB⟩
    exact ⟨⟨_, _, _, [], .inl ⟨.inl hgo, rfl, rfl, rfl⟩, Rd.nil w' none 0 5 (by decide), rfl⟩, hB⟩
  | true =>
    refine (touch5_yes pva ava eva pvb avb evb a b n gap within w pa aa ea pb ab eb hw hgo).mono ?_
    rintro e w' ⟨⟨hs, rfl⟩ | ⟨hs, v, r, hF, hR, rfl⟩, hB⟩
    · exact ⟨⟨_, _, _, [], .inl ⟨.inr hs, rfl, rfl, rfl⟩, Rd.nil w' none 0 5 (by decide), rfl⟩, hB⟩
    · exact ⟨⟨_, _, _, r, .inr ⟨hgo, hs, rfl, rfl, hF⟩, hR, rfl⟩, hB⟩
theorem touch6_any (pva ava eva pvb avb evb : Value) (a b : Cor) (n : Pt) (gap within : Int) (w : World) (pa : Rd w pva a.P.length 3 (ptCells a.P)) (aa : Rd w ava a.A.length 3 (ptCells a.A)) (ea : Rd w eva a.E.length 3 (ptCells a.E)) (pb : Rd w pvb b.P.length 3 (ptCells b.P)) (ab : Rd w avb b.A.length 3 (ptCells b.A)) (eb : Rd w evb b.E.length 3 (ptCells b.E)) (hw : -1099511627776 < within ∧ within < 1099511627776) :
    Calls Try.prog 6 #[corV pva ava eva a.r, corV pvb avb evb b.r, apV n gap, .int .i64 within] w fun e w' => (∃ p v ok l, TOut a b n gap within p ok l ∧ Rd w' v l.length 5 (spCells l) ∧ e = .returned (.tuple #[patV p v, .bool ok])) ∧ Below w.heap.size w w' := by
  cases hgo : goB a b n gap within with
  | false =>
    refine (touch6_no pva ava eva pvb avb evb a b n gap within w pa aa ea pb ab eb hgo).mono ?_
    rintro e w' ⟨rfl, hB⟩
    exact ⟨⟨_, _, _, [], .inl ⟨.inl hgo, rfl, rfl, rfl⟩, Rd.nil w' none 0 5 (by decide), rfl⟩, hB⟩
  | true =>
    refine (touch6_yes pva ava eva pvb avb evb a b n gap within w pa aa ea pb ab eb hw hgo).mono ?_
    rintro e w' ⟨⟨hs, rfl⟩ | ⟨hs, v, r, hF, hR, rfl⟩, hB⟩
    · exact ⟨⟨_, _, _, [], .inl ⟨.inr hs, rfl, rfl, rfl⟩, Rd.nil w' none 0 5 (by decide), rfl⟩, hB⟩
    · exact ⟨⟨_, _, _, r, .inr ⟨hgo, hs, rfl, rfl, hF⟩, hR, rfl⟩, hB⟩
theorem tout_co {p : Pt} {ok : Bool} {l : List Sp} (h : TOut coA coB axU (-2) 0 p ok l) : p = axU ∧ ok = true ∧ l = [⟨⟨1, 0, 0⟩, 2, 256⟩] := by
  refine tout_one h (.inr ⟨go_co, by rw [spots_co]; simp, rfl, rfl, .inl ⟨by rw [spots_co]; decide, spots_co.symm⟩⟩)
theorem tout_no {p : Pt} {ok : Bool} {l : List Sp} (h : TOut coA coB axU 1 0 p ok l) : p = ⟨0, 0, 0⟩ ∧ ok = false ∧ l = [] :=
  tout_one h (.inl ⟨.inl no_co, rfl, rfl, rfl⟩)
end Go.Proofs.Ytpbpdgknjbjlcaa
