/- What the law's arguments read as: cores, and how two are apart; two closed facts of the program. -/
import Derived.Test.YtpbpdgknjbjlcaaDc
import Derived.Test.YtpbpdgknjbjlcaaO
namespace Go.Proofs.Ytpbpdgknjbjlcaa
open Go.RowKit Go.ChangeShapes Go.WideShapes Go.ChangeAt
theorem own : ownKnob Try.prog.godebug = none := by kernel_rfl
theorem laidOut : laidOutB Try.prog = true := by kernel_rfl
theorem in64_of_wf {c : Int} (h : (Lit.int .i64 c).wf = true) : In64 c := by
  have := bounds_i64 h
  exact this
set_option maxRecDepth 100000 in
theorem pt_of_trod {H : Type} {enc : TypeId × Value → H} {W : World} {base : Nat} {spare : Nat → Bool} {held : Bool} (n : Nat) (cs : List Value) (x : DataW H × List MemPlace) (h : DataW.trod enc Try.prog W base spare held n 26 cs = some x) : ∃ y : Pt, cs = y.cells := by
  obtain ⟨xs, m, rfl, rfl, hl, hxl, hx⟩ := DataW.trod_struct Try.underlying26 h
  have c26 : Try.prog.cellsOf 26 = 3 := by kernel_rfl
  have c3 : Try.prog.cellsOf 3 = 1 := by kernel_rfl
  rw [c26] at hl
  simp at hxl
  match cs, hl with
  | [a, b, c], _ =>
    have h0 : DataW.trod enc Try.prog W base spare held m 3 (List.take (Try.prog.cellsOf 3) (List.drop 0 [a, b, c])) = xs[0]? := hx 0 _ rfl
    have h1 : DataW.trod enc Try.prog W base spare held m 3 (List.take (Try.prog.cellsOf 3) (List.drop 1 [a, b, c])) = xs[1]? := hx 1 _ rfl
    have h2 : DataW.trod enc Try.prog W base spare held m 3 (List.take (Try.prog.cellsOf 3) (List.drop 2 [a, b, c])) = xs[2]? := hx 2 _ rfl
    rw [List.getElem?_eq_getElem (by omega)] at h0 h1 h2
    simp only [c3, List.drop_zero, List.take_succ_cons, List.take_zero, List.drop_succ_cons] at h0 h1 h2
    obtain ⟨p, hp, _, wp⟩ := DataW.trod_int Try.underlying3 h0
    obtain ⟨q, hq, _, wq⟩ := DataW.trod_int Try.underlying3 h1
    obtain ⟨r, hr, _, wr⟩ := DataW.trod_int Try.underlying3 h2
    simp only [List.cons.injEq, and_true] at hp hq hr
    subst hp; subst hq; subst hr
    exact ⟨⟨p, q, r⟩, rfl⟩
theorem pts_of_trod {H : Type} {enc : TypeId × Value → H} {W : World} {base : Nat} {spare : Nat → Bool} {held : Bool} (n : Nat) (a : Value) (x : DataW H × List MemPlace) (h : DataW.trod enc Try.prog W base spare held n 22 [a] = some x) : ∃ l : List Pt, Rd W a l.length 3 (ptCells l) := by
  obtain ⟨d, ps⟩ := x
  have key : ∀ (o : Option Addr) (len cap : Nat), a = .slice o len cap → ∃ l : List Pt, Rd W a l.length 3 (ptCells l) := by
    rintro o len cap rfl
    obtain ⟨⟨ys, yl, yr, -⟩, -⟩ := rd_of_trod (d := d) (p := ps) Pt.cells (fun _ => True) (sz := 3) Try.underlying22 (by kernel_rfl) (by decide) (fun _ => rfl) (fun n cs x h => by obtain ⟨y, hy⟩ := pt_of_trod n cs x h; exact ⟨y, hy, trivial⟩) ⟨n, h⟩
    exact ⟨ys, by rw [yl]; exact yr⟩
  rcases DataW.trod_slice Try.underlying22 h with ⟨hcs, -⟩ | ⟨ad, len, cap, e, r, m, -, hcs, -⟩
  · exact key none 0 0 (by simpa using hcs)
  · exact key (some ad) len cap (by simpa using hcs)
/-- A core as it is handed in. -/
structure CoV where
  pv : Value
  av : Value
  ev : Value
  c : Cor
def CoreIn (W : World) (y : CoV) : Prop := Rd W y.pv y.c.P.length 3 (ptCells y.c.P) ∧ Rd W y.av y.c.A.length 3 (ptCells y.c.A) ∧ Rd W y.ev y.c.E.length 3 (ptCells y.c.E)
set_option maxRecDepth 100000 in
theorem open_core {H : Type} {enc : TypeId × Value → H} {W : World} {r : Reach} {b0 base : Nat} {spare : Nat → Bool} {held : Bool} {v : Value} {d : DataW H} {ps : List MemPlace} (hval : Value.okWide Try.prog W r b0 24 v) (hd : DataW.Trod enc Try.prog W base spare held 24 v d ps) : ∃ y : CoV, v = corV y.pv y.av y.ev y.c.r ∧ CoreIn W y := by
  obtain ⟨cs, rfl, -⟩ := okWide_struct Try.underlying24 hval
  obtain ⟨m, hm⟩ := hd
  obtain ⟨xs, k, -, -, hl, hxl, hx⟩ := DataW.trod_struct Try.underlying24 hm
  have c24 : Try.prog.cellsOf 24 = 4 := by kernel_rfl
  have c22 : Try.prog.cellsOf 22 = 1 := by kernel_rfl
  have c3 : Try.prog.cellsOf 3 = 1 := by kernel_rfl
  rw [c24] at hl
  simp at hxl
  obtain ⟨cs⟩ := cs
  simp only [Value.cells] at hl hx
  match cs, hl with
  | [a, b, c, e], _ =>
    have h0 : DataW.trod enc Try.prog W base spare held k 22 (List.take (Try.prog.cellsOf 22) (List.drop 0 [a, b, c, e])) = xs[0]? := hx 0 _ rfl
    have h1 : DataW.trod enc Try.prog W base spare held k 22 (List.take (Try.prog.cellsOf 22) (List.drop 1 [a, b, c, e])) = xs[1]? := hx 1 _ rfl
    have h2 : DataW.trod enc Try.prog W base spare held k 22 (List.take (Try.prog.cellsOf 22) (List.drop 2 [a, b, c, e])) = xs[2]? := hx 2 _ rfl
    have h3 : DataW.trod enc Try.prog W base spare held k 3 (List.take (Try.prog.cellsOf 3) (List.drop 3 [a, b, c, e])) = xs[3]? := hx 3 _ rfl
    rw [List.getElem?_eq_getElem (by omega)] at h0 h1 h2 h3
    simp only [c22, c3, List.drop_zero, List.take_succ_cons, List.take_zero, List.drop_succ_cons] at h0 h1 h2 h3
    obtain ⟨P, hP⟩ := pts_of_trod _ _ _ h0
    obtain ⟨A, hA⟩ := pts_of_trod _ _ _ h1
    obtain ⟨E, hE⟩ := pts_of_trod _ _ _ h2
    obtain ⟨p, hp, -, -⟩ := DataW.trod_int Try.underlying3 h3
    simp only [List.cons.injEq, and_true] at hp
    subst hp
    exact ⟨⟨a, b, c, ⟨P, A, E, p⟩⟩, rfl, hP, hA, hE⟩
set_option maxRecDepth 100000 in
theorem open_apart {H : Type} {enc : TypeId × Value → H} {W : World} {r : Reach} {b0 base : Nat} {spare : Nat → Bool} {held : Bool} {v : Value} {d : DataW H} {ps : List MemPlace} (hval : Value.okWide Try.prog W r b0 28 v) (hd : DataW.Trod enc Try.prog W base spare held 28 v d ps) : ∃ y : Pt × Int, v = apV y.1 y.2 ∧ True := by
  obtain ⟨cs, rfl, -⟩ := okWide_struct Try.underlying28 hval
  obtain ⟨m, hm⟩ := hd
  obtain ⟨xs, k, -, -, hl, hxl, hx⟩ := DataW.trod_struct Try.underlying28 hm
  have c28 : Try.prog.cellsOf 28 = 4 := by kernel_rfl
  have c26 : Try.prog.cellsOf 26 = 3 := by kernel_rfl
  have c3 : Try.prog.cellsOf 3 = 1 := by kernel_rfl
  rw [c28] at hl
  simp at hxl
  obtain ⟨cs⟩ := cs
  simp only [Value.cells] at hl hx
  match cs, hl with
  | [a, b, c, e], _ =>
    have h0 : DataW.trod enc Try.prog W base spare held k 26 (List.take (Try.prog.cellsOf 26) (List.drop 0 [a, b, c, e])) = xs[0]? := hx 0 _ rfl
    have h1 : DataW.trod enc Try.prog W base spare held k 3 (List.take (Try.prog.cellsOf 3) (List.drop 3 [a, b, c, e])) = xs[1]? := hx 1 _ rfl
    rw [List.getElem?_eq_getElem (by omega)] at h0 h1
    simp only [c26, c3, List.drop_zero, List.take_succ_cons, List.take_zero, List.drop_succ_cons] at h0 h1
    obtain ⟨q, hq⟩ := pt_of_trod _ _ _ h0
    obtain ⟨p, hp, -, -⟩ := DataW.trod_int Try.underlying3 h1
    simp only [Pt.cells, List.cons.injEq, and_true] at hp hq
    obtain ⟨rfl, rfl, rfl⟩ := hq
    subst hp
    exact ⟨(q, p), rfl, trivial⟩
end Go.Proofs.Ytpbpdgknjbjlcaa
