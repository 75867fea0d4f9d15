/- Trees: Drop, Put. -/
import Derived.Test.YtadfmhjnmmmalaaN7
namespace Go.Proofs.Ytadfmhjnmmmalaa
open Go.RowKit Go.Maps
theorem Raw.tight {w : World} {t : Nat} {vn vf : Value} {mb : Nat} {room : Int} {ns : List Nd} {fr : List Nat} {root : Int} {n : Nat} {D : DataW Unit} (h : Raw w t vn vf mb room ns fr root n D) {k : Nat} (hk : Maps.size D = k) : Raw w t vn vf mb room ns fr root k D :=
  ⟨h.1, h.2.1, h.2.2.1, by rw [← hk]; exact own_tight h.2.2.2⟩
theorem Raw.tidy {w : World} {t : Nat} {vn vf : Value} {mb : Nat} {room : Int} {ns : List Nd} {fr : List Nat} {root : Int} {n : Nat} {D : DataW Unit} (h : Raw w t vn vf mb room ns fr root n D) : Tidy D := h.2.2.2.tidy law30
/-- Behind fell. -/
theorem tree_felled {w' : World} {t : Nat} {vn vf : Value} {mb : Nat} {room : Nat} {ms : List Nd} {gr : List Nat} {root : Int} {n : Nat} {D : DataW Unit} {ls : List (Int × Nat × Bx)} {o : Option T} {L : List Lf} {h : Int} {i : Nat} {b : Bx}
    (hR : Raw w' t vn vf mb (room : Int) ms gr root n (D.del (.int .i64 h))) (hD : Tidy D) (hS : St ms gr root o) (hT : Tie D ls) (hpl : (oleaves o ++ [(h, i, b)]).Perm ls) (hp : (ls.map bare).Perm L) (hL : Rises L) (hm : (h, b) ∈ L) (hms : ms.length ≤ 2048) (hr : L.length ≤ room) (hr2 : room ≤ 1024) (hk : ∀ x ∈ L, In64 x.1) :
    Tree w' t (Foot t vn vf mb) room (delL L h) ∧ Tie (D.del (.int .i64 h)) (oleaves o) ∧ ((oleaves o).map bare).Perm (delL L h) := by
  have h1 : ((oleaves o).map bare).Perm (delL L h) := by
    have := (hpl.map bare).trans (hp.trans (del_perm hL hm))
    rw [List.map_append] at this
    exact (List.perm_append_right_iff _).1 this
  have h2 : ∀ y ∈ oleaves o, y.1 ≠ h := fun y hy => by
    have := h1.mem_iff.1 (List.mem_map_of_mem hy)
    have := (List.mem_filter.1 this).2
    exact of_decide_eq_true this
  have h3 := Tie.del (x := (h, i, b)) (hT.perm hpl.symm) hD h2
  have hl : (delL L h).length ≤ L.length := List.length_filter_le _ _
  refine ⟨⟨vn, vf, mb, ms, gr, root, _, o, rfl, hR.tight (by rw [h3.2.2, ← h1.length_eq, List.length_map]), hS, h3, h1, del_rises hL h, hms, by omega, hr2, fun x hx => hk x (List.mem_filter.1 hx).1⟩, h3, h1⟩
set_option maxRecDepth 100000 in
theorem drop16_any (t : Nat) (S : Nat → Prop) (room : Nat) (L : List Lf) (h : Int) (hh : In64 h) (w : World) (hT : Tree w t S room L) :
    Calls Try.prog 16 #[.pointer (some ⟨t, 0, none⟩), .int .i64 h] w fun e w' => e = .returned (.int .i64 (if hasL L h then 0 else 81)) ∧ ∃ S', Tree w' t S' room (delL L h) ∧ Turn S S' w w' := by
  have hTr := hT
  obtain ⟨vn, vf, mb, ns, fr, root, D, o, rfl, hR, hS, hT, hp, hL, hns, hr, hr2, hk⟩ := hT
  have c4 := hR.1.cell 4
  simp only [List.getElem?_cons_zero, List.getElem?_cons_succ] at c4
  have hm := hR.2.2.2
  have hhas := tree_has hT hp h
  unfold hasL at hhas ⊢
  cases hb : boxOf L h with
  | none =>
    rw [hb] at hhas
    simp only [Option.isSome_none] at hhas ⊢
    go_enter Try.func16, Try.ntmps16
    go_wp2_with (at_lookup; refine wpList_lookup_own_ok_int _ rfl _ _ 69 rfl 30 3 .i64 law30 Try.underlying69 Try.underlying3 (zero3 _) mb _ D rfl hm _ _ rfl (key30 hh) ?_; intro cc hat hwc; rw [hhas])
    go_ret
    refine ⟨rfl, _, ?_, Turn.refl _ _⟩
    rw [del_none (boxOf_none.1 hb)]
    exact hTr
  | some b =>
    rw [hb] at hhas
    simp only [Option.isSome_some] at hhas ⊢
    obtain ⟨i, hi⟩ := tree_leaf hL hp hb
    have hat0 := hT.2.1 _ hi
    have hmem := (boxOf_some hL).1 hb
    cases o with
    | none => cases hi
    | some T0 =>
      go_enter Try.func16, Try.ntmps16
      go_wp2_with (at_lookup; refine wpList_lookup_own_ok_int _ rfl _ _ 69 rfl 30 3 .i64 law30 Try.underlying69 Try.underlying3 (zero3 _) mb _ D rfl hm _ _ rfl (key30 hh) ?_; intro cc hat hwc; rw [hhas])
      refine (fell35_any t mb vn vf _ ns fr root _ D T0 h i b w hR hS hh hns hi hat0).mono ?_
      rintro e w2 ⟨rfl, ms, gr, root', vn', vf', o', hR2, hS2, hp2, hml, hTn⟩
      go_wp2
      go_ret
      exact ⟨rfl, _, (tree_felled hR2 hR.tidy hS2 hT hp2 hp hL hmem (by omega) hr hr2 hk).1, hTn⟩
end Go.Proofs.Ytadfmhjnmmmalaa
