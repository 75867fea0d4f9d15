/- What a box that is handed over as a value reads as. -/
import Derived.Test.YtadfmhjnmmmalaaK
namespace Go.Proofs.Ytadfmhjnmmmalaa
open Go.RowKit Go.ChangeShapes Go.WideShapes Go.ChangeAt
set_option maxRecDepth 100000 in
theorem open_box {H : Type} {enc : TypeId × Value → H} {W : World} {r : Reach} {b0 base : Nat} {spare : Nat → Bool} {held : Bool} {v : Value} {d : DataW H} {ps : List MemPlace} (hval : Value.okWide Try.prog W r b0 34 v) (hd : DataW.Trod enc Try.prog W base spare held 34 v d ps) : ∃ y : Bx, v = boxV y ∧ InB y := by
  obtain ⟨cs, rfl, -⟩ := okWide_struct Try.underlying34 hval
  obtain ⟨m, hm⟩ := hd
  obtain ⟨y, hy, hg⟩ := box_of_trod m _ _ hm
  refine ⟨y, ?_, hg⟩
  have h2 : cs.toList = y.cells := by simpa [Value.cells] using hy
  have h3 : cs = y.cells.toArray := by rw [← h2]
  rw [h3]
  rfl
end Go.Proofs.Ytadfmhjnmmmalaa
