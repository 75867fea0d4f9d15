/- IslandGrows holds of the given program: whatever things, links and a link more, the call returns true, and the input reads as it did. -/
import Derived.Test.YtafljpfephomoaaG
import Derived.Test.YtafljpfephomoaaO
namespace Go.Proofs.Ytafljpfephomoaa
open Go.RowKit Go.ChangeShapes Go.WideShapes Go.ChangeAt
theorem own : ownKnob Try.prog.godebug = none := by kernel_rfl
theorem laidOut : laidOutB Try.prog = true := by kernel_rfl

theorem in64_of_wf {c : Int} (h : (Lit.int .i64 c).wf = true) : In64 c := by
  have := bounds_i64 h
  exact this
def encPair (p : Int × Int) : List Value := [.int .i64 p.1, .int .i64 p.2]
theorem pair_of_trod {H : Type} {enc : TypeId × Value → H} {W : World} {base : Nat} {spare : Nat → Bool} {held : Bool} (n : Nat) (cs : List Value) (x : DataW H × List MemPlace) (h : DataW.trod enc Try.prog W base spare held n 25 cs = some x) : ∃ y : Int × Int, cs = encPair y ∧ (In64 y.1 ∧ In64 y.2) := by
  obtain ⟨xs, m, rfl, rfl, hl, hxl, hx⟩ := DataW.trod_array Try.underlying25 h
  have c25 : Try.prog.cellsOf 25 = 2 := by kernel_rfl
  have c3 : Try.prog.cellsOf 3 = 1 := by kernel_rfl
  rw [c25] at hl
  match cs, hl with
  | [a, b], _ =>
    have h0 := hx 0 (by decide)
    have h1 := hx 1 (by decide)
    rw [c3, List.getElem?_eq_getElem (by omega)] at h0 h1
    simp only [Nat.zero_mul, List.drop_zero, List.take_succ_cons, List.take_zero, Nat.one_mul, List.drop_succ_cons] at h0 h1
    obtain ⟨p, hp, _, wp⟩ := DataW.trod_int Try.underlying3 h0
    obtain ⟨q, hq, _, wq⟩ := DataW.trod_int Try.underlying3 h1
    simp only [List.cons.injEq, and_true] at hp hq
    subst hp; subst hq
    exact ⟨(p, q), rfl, in64_of_wf wp, in64_of_wf wq⟩

set_option maxRecDepth 100000 in
theorem lifted (os : Os) (started : os.Started) (H : Type) (enc : TypeId × Value → H) :
    ReturnsInHanded {} Try.checked os 3 .any (Rows.islandGrowsSpec.pre6 enc Try.prog Try.f3 Rows.islandGrowsRow.domain false) (Rows.islandGrowsSpec.post enc Try.prog Try.f3 false true false false) := by
  refine returnsInHanded_of_change_sized (C := Try.checked) own started (by kernel_rfl) Try.func3
    (ChangeSpec.witness6 (enc := enc) (C := Try.checked) false ⟨#[], #[.int .i64 0, .slice none 0 0, .int .i64 0, .int .i64 0], []⟩ 8 (by kernel_rfl) (by kernel_rfl) (by kernel_rfl) (by kernel_rfl)) ?_
  intro W base args ds gs before hval0 hW hcnd hsz0 _
  have hval : ∀ (j : Nat) t v, Try.f3.params[j]? = some t → args[j]? = some v → Value.okWide Try.prog W .any base t v := hval0
  have hW' := hW
  obtain ⟨p, q, hA0, hV, rfl, hfz, hnd⟩ := hW
  have hA : DataW.TrodAll enc Try.prog W 0 (fun _ => true) true Try.f3.params.toList args.toList ds p := hA0
  have hsz : (DataW.weightsEach Try.prog (Try.f3.params.toList ++ Rows.islandGrowsSpec.plain.varTypes Try.prog) (ds ++ gs)).all (· ≤ reachBytes) = true := hsz0
  rw [Try.params3] at hA hval hsz
  obtain ⟨v0, vs0, d0, ds0, p0, q0, hargs, rfl, rfl, h0, r0⟩ := trodAll_cons hA
  obtain ⟨v1, vs1, d1, ds1, p1, q1, rfl, rfl, rfl, h1, r1⟩ := trodAll_cons r0
  obtain ⟨v2, vs2, d2, ds2, p2, q2, rfl, rfl, rfl, h2, r2⟩ := trodAll_cons r1
  obtain ⟨v3, vs3, d3, ds3, p3, q3, rfl, rfl, rfl, h3, r3⟩ := trodAll_cons r2
  obtain ⟨rfl, rfl, rfl⟩ := trodAll_nil r3
  obtain rfl : args = #[v0, v1, v2, v3] := by cases args; simp_all
  obtain ⟨rfl, rfl⟩ := trodVars_none hV
  obtain ⟨a0, rfl, rfl, rfl, w0⟩ := open_int Try.underlying3 (hval 0 3 v0 rfl rfl) h0
  obtain ⟨a1, len1, cap1, rfl⟩ := okWide_slice Try.underlying22 (hval 1 22 v1 rfl rfl)
  have k1 := h1
  have lt1 : ∀ x ∈ p1, x.block < W.heap.size := by obtain ⟨m, hm⟩ := k1; exact DataW.trod_lt m _ _ _ hm
  obtain ⟨⟨ys, y1, y2, y3⟩, hd1⟩ := rd_of_trod encPair (fun y => In64 y.1 ∧ In64 y.2) (sz := 2) Try.underlying22 (by kernel_rfl) (by decide) (fun _ => rfl) (fun n cs x h => pair_of_trod n cs x h) h1
  have hB := sized_at (j := 1) (B := 16) hsz rfl rfl Try.underlying22 (by kernel_rfl) hd1
  obtain ⟨a2, rfl, rfl, rfl, w2⟩ := open_int Try.underlying3 (hval 2 3 v2 rfl rfl) h2
  obtain ⟨a3, rfl, rfl, rfl, w3⟩ := open_int Try.underlying3 (hval 3 3 v3 rfl rfl) h3
  clear hA0 hval0
  refine (grows_any a0 a2 a3 _ len1 ys y1 W (in64_of_wf w0) (in64_of_wf w2) (in64_of_wf w3) y3 y2 hB).mono fun e W' ⟨he, bel⟩ => ?_
  subst he
  exact ⟨_, rfl, _, _, _, [], _, [], hW', trodAll_mk1 (shut_bool Try.underlying4 _), (trodAll_cons_mk (shut_int Try.underlying3 w0) (trodAll_cons_mk (Below.trod laidOut (by kernel_rfl) (of_decide_eq_true (by kernel_rfl)) k1 bel lt1) (trodAll_cons_mk (shut_int Try.underlying3 w2) (trodAll_cons_mk (shut_int Try.underlying3 w3) trodAll_mk0)))), rfl, bel.frame _, fun h => by cases h⟩

theorem islandGrows_holds : Rows.IslandGrowsSaid :=
  OpenClaim.holds_of_wide 3 Try.f3 rfl rfl rfl rfl rfl rfl rfl ⟨rfl, rfl, rfl, rfl, rfl⟩ rfl rfl rfl rfl rfl (by kernel_rfl) Try.func3 (by kernel_rfl)
    (of_decide_eq_true (by kernel_rfl)) (by unfold Func.isWrapper; first | (rw [if_pos (by decide +kernel)]; kernel_rfl) | (rw [if_neg (by decide +kernel)]; exact ⟨rfl, rfl⟩))
    (fun os started H enc _ => lifted os started H enc)
#print axioms islandGrows_holds
end Go.Proofs.Ytafljpfephomoaa
