/- SnapCuts holds of the given program: whatever the input, the call returns true, and the input reads behind the call as it read before. No condition. -/
import Derived.Test.YtlcmjpligaiadaaRows
import Derived.Test.YtlcmjpligaiadaaSr
import Derived.Test.YtlcmjpligaiadaaK
namespace Go.Proofs.Ytlcmjpligaiadaa
open Go.RowKit Go.ChangeShapes Go.WideShapes Go.ChangeAt
set_option maxRecDepth 100000 in
theorem snapCuts_lifted (os : Os) (started : os.Started) (H : Type) (enc : TypeId × Value → H) :
    ReturnsInHanded {} Try.checked os 4 .any (Rows.snapCutsSpec.pre6 enc Try.prog Try.f4 Rows.snapCutsRow.domain false) (Rows.snapCutsSpec.post enc Try.prog Try.f4 false true false false) := by
  refine returnsInHanded_of_change_sized (C := Try.checked) own started (by kernel_rfl) Try.func4
    (ChangeSpec.witness6 (enc := enc) (C := Try.checked) false ⟨#[], #[.slice none 0 0, .slice none 0 0, .int .i64 0, .string ByteArray.empty], []⟩ 8 (by kernel_rfl) (by kernel_rfl) (by kernel_rfl) (by kernel_rfl)) ?_
  intro W base args ds gs before hval0 hW hcnd hsz0 _
  have hval : ∀ (j : Nat) t v, Try.f4.params[j]? = some t → args[j]? = some v → Value.okWide Try.prog W .any base t v := hval0
  have hW' := hW
  obtain ⟨p, q, hA0, hV, rfl, hfz, hnd⟩ := hW
  have hA : DataW.TrodAll enc Try.prog W 0 (fun _ => true) true Try.f4.params.toList args.toList ds p := hA0
  have hsz : (DataW.weightsEach Try.prog (Try.f4.params.toList ++ Rows.snapCutsSpec.plain.varTypes Try.prog) (ds ++ gs)).all (· ≤ reachBytes) = true := hsz0
  rw [Try.params4] at hA hval hsz
  obtain ⟨v0, vs0, d0, ds0, p0, q0, hargs, rfl, rfl, h0, r0⟩ := trodAll_cons hA
  obtain ⟨v1, vs1, d1, ds1, p1, q1, rfl, rfl, rfl, h1, r1⟩ := trodAll_cons r0
  obtain ⟨v2, vs2, d2, ds2, p2, q2, rfl, rfl, rfl, h2, r2⟩ := trodAll_cons r1
  obtain ⟨v3, vs3, d3, ds3, p3, q3, rfl, rfl, rfl, h3, r3⟩ := trodAll_cons r2
  obtain ⟨rfl, rfl, rfl⟩ := trodAll_nil r3
  obtain rfl : args = #[v0, v1, v2, v3] := by cases args; simp_all
  obtain ⟨rfl, rfl⟩ := trodVars_none hV
  obtain ⟨x0, len0, cap0, rfl⟩ := okWide_slice Try.underlying22 (hval 0 22 v0 rfl rfl)
  have k0 := h0
  have lt0 : ∀ x ∈ p0, x.block < W.heap.size := by obtain ⟨m, hm⟩ := k0; exact DataW.trod_lt m _ _ _ hm
  obtain ⟨⟨ys0, yl0, yr0, yg0⟩, hd0⟩ := rd_of_trod encInt (In64) (sz := 1) Try.underlying22 (by kernel_rfl) (by decide) (fun _ => rfl) (fun n cs x h => int_of_trod n cs x h) h0
  rw [flat_ints] at yr0
  have hB0 := sized_at (j := 0) (B := 8) hsz rfl rfl Try.underlying22 (by kernel_rfl) hd0
  obtain ⟨x1, len1, cap1, rfl⟩ := okWide_slice Try.underlying22 (hval 1 22 v1 rfl rfl)
  have k1 := h1
  have lt1 : ∀ x ∈ p1, x.block < W.heap.size := by obtain ⟨m, hm⟩ := k1; exact DataW.trod_lt m _ _ _ hm
  obtain ⟨⟨ys1, yl1, yr1, yg1⟩, hd1⟩ := rd_of_trod encInt (In64) (sz := 1) Try.underlying22 (by kernel_rfl) (by decide) (fun _ => rfl) (fun n cs x h => int_of_trod n cs x h) h1
  rw [flat_ints] at yr1
  have hB1 := sized_at (j := 1) (B := 8) hsz rfl rfl Try.underlying22 (by kernel_rfl) hd1
  obtain ⟨a2, rfl, rfl, rfl, w2⟩ := open_int Try.underlying3 (hval 2 3 v2 rfl rfl) h2
  obtain ⟨s3, rfl, rfl, rfl, z3⟩ := Go.ChangeMaps.open_string Try.underlying9 (hval 3 9 v3 rfl rfl) h3
  have hB3 := sized_string (j := 3) hsz rfl rfl
  clear hA0 hval0
  refine (cuts_any (.slice x0 len0 cap0) (.slice x1 len1 cap1) len0 len1 a2 s3 ys0 ys1 yl0 yl1 (fun x hx => by have h := yg0 x hx; unfold In64 at h; omega) (fun x hx => by have h := yg1 x hx; unfold In64 at h; omega) (in64_of_wf w2) (by have h := z3; unfold maxLen at h; omega) W yr0 yr1).mono fun e W' ⟨he, bel⟩ => ?_
  subst he
  exact ⟨_, rfl, _, _, _, [], _, [], hW', trodAll_mk1 (shut_bool Try.underlying4 _), (trodAll_cons_mk (Below.trod laidOut (by kernel_rfl) (of_decide_eq_true (by kernel_rfl)) k0 bel lt0) (trodAll_cons_mk (Below.trod laidOut (by kernel_rfl) (of_decide_eq_true (by kernel_rfl)) k1 bel lt1) (trodAll_cons_mk (shut_int Try.underlying3 w2) (trodAll_cons_mk (Go.ChangeMaps.shut_string Try.underlying9 z3) trodAll_mk0)))), rfl, bel.frame _, fun h => by cases h⟩

theorem snapCuts_holds : Rows.SnapCutsSaid :=
  OpenClaim.holds_of_wide 4 Try.f4 rfl rfl rfl rfl rfl rfl rfl ⟨rfl, rfl, rfl, rfl, rfl⟩ rfl rfl rfl rfl rfl (by kernel_rfl) Try.func4 (by kernel_rfl)
    (of_decide_eq_true (by kernel_rfl)) (by unfold Func.isWrapper; first | (rw [if_pos (by decide +kernel)]; kernel_rfl) | (rw [if_neg (by decide +kernel)]; exact ⟨rfl, rfl⟩))
    (fun os started H enc _ => snapCuts_lifted os started H enc)
#print axioms snapCuts_holds
end Go.Proofs.Ytlcmjpligaiadaa
