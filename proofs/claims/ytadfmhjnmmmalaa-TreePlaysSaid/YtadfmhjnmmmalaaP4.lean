/- Trees: Pairs. -/
import Derived.Test.YtadfmhjnmmmalaaP3
namespace Go.Proofs.Ytadfmhjnmmmalaa
open Go.RowKit Go.Maps Go.Shelf
def rowP (L : List Lf) (y : Lf) : List Pr := ((foundL L y.2).filter (fun x => decide (y.1 < x))).map (fun x => (y.1, x))
def pairsL (L : List Lf) : List Pr := L.flatMap (rowP L)
def outTo (L : List Lf) (i : Nat) : List Pr := (L.take i).flatMap (rowP L)
def fTo (h : Int) (F : List Int) (j : Nat) : List Pr := ((F.take j).filter (fun x => decide (h < x))).map (fun x => (h, x))
theorem out_succ {L : List Lf} {i : Nat} {y : Lf} (h : L[i]? = some y) : outTo L (i + 1) = outTo L i ++ rowP L y := by
  unfold outTo
  rw [List.take_add_one, h]
  simp
theorem out_all (L : List Lf) : outTo L L.length = pairsL L := by unfold outTo pairsL; rw [List.take_length]
theorem fto_zero (h : Int) (F : List Int) : fTo h F 0 = [] := by simp [fTo]
theorem fto_in {h : Int} {F : List Int} {j : Nat} {x : Int} (hx : F[j]? = some x) (hl : h < x) : fTo h F (j + 1) = fTo h F j ++ [(h, x)] := by
  unfold fTo
  rw [List.take_add_one, hx]
  simp [hl]
theorem fto_out {h : Int} {F : List Int} {j : Nat} {x : Int} (hx : F[j]? = some x) (hl : ¬ h < x) : fTo h F (j + 1) = fTo h F j := by
  unfold fTo
  rw [List.take_add_one, hx]
  simp [hl]
theorem fto_all (L : List Lf) (y : Lf) : fTo y.1 (foundL L y.2) (foundL L y.2).length = rowP L y := by unfold fTo rowP; rw [List.take_length]
theorem fto_len (h : Int) (F : List Int) (j : Nat) : (fTo h F j).length ≤ F.length := by
  unfold fTo
  rw [List.length_map]
  exact Nat.le_trans (List.length_filter_le _ _) (by rw [List.length_take]; omega)
theorem found_len (L : List Lf) (q : Bx) : (foundL L q).length ≤ L.length := by
  unfold foundL
  rw [List.length_map]
  exact List.length_filter_le _ _
theorem out_len (L : List Lf) : ∀ i : Nat, (outTo L i).length ≤ i * L.length
  | 0 => by simp [outTo]
  | i + 1 => by
    have ih := out_len L i
    have e : (i + 1) * L.length = i * L.length + L.length := by rw [Nat.add_mul, Nat.one_mul]
    cases h : L[i]? with
    | none =>
      have : outTo L (i + 1) = outTo L i := by unfold outTo; rw [List.take_add_one, h]; simp
      rw [this]
      omega
    | some y =>
      rw [out_succ h, List.length_append, ← fto_all L y]
      have := fto_len y.1 (foundL L y.2) (foundL L y.2).length
      have := found_len L y.2
      omega
/-- Rows of other kinds stay where one grows. -/
theorem own_apart {w w' : World} {b b' e e' n n' sz sz' : Nat} {v v' : Value} {xs xs' : List Value} (h : w.ownsRow b e sz v n xs) (h2 : w.ownsRow b' e' sz' v' n' xs') (hne : e ≠ e') (hg : w.grownBy w' v'.ownBlock) : w'.ownsRow b e sz v n xs :=
  own_keep h fun g cur _ hh => hg.block g (Array.getElem?_eq_some_iff.1 hh).1 (fun e2 => by
    obtain ⟨c2, hc⟩ := own_cells h2 e2.symm
    rw [hh] at hc
    simp only [Option.some.injEq, Obj.cells.injEq] at hc
    exact hne hc.2.1)
set_option maxRecDepth 100000 in
/-- What one sees of a leaf by its handle, and goes on to see. -/
theorem leaf_seen {t : Nat} {S : Nat → Prop} {room : Nat} {L : List Lf} {h : Int} {b : Bx} {w : World} (hT : Tree w t S room L) (hh : In64 h) (hb : boxOf L h = some b) :
    ∃ g m cap mb i : Nat, (i : Int) < (m : Int) ∧ ∀ W, Below w.heap.size w W →
      W.cell? ⟨t, 1, none⟩ = some (.slice (some ⟨g, 0, none⟩) m cap) ∧ W.cell? ⟨t, 4, none⟩ = some (.map (some mb)) ∧
      W.cell? ⟨g, i * 10, none⟩ = some (.int .i64 b.x0) ∧ W.cell? ⟨g, i * 10 + 1, none⟩ = some (.int .i64 b.y0) ∧ W.cell? ⟨g, i * 10 + 2, none⟩ = some (.int .i64 b.z0) ∧ W.cell? ⟨g, i * 10 + 3, none⟩ = some (.int .i64 b.x1) ∧ W.cell? ⟨g, i * 10 + 4, none⟩ = some (.int .i64 b.y1) ∧ W.cell? ⟨g, i * 10 + 5, none⟩ = some (.int .i64 b.z1) ∧
      (Instr.lookup 69 (.map (some mb)) (.int .i64 h) false).run Try.prog W = .ok (.int .i64 (i : Int)) W := by
  obtain ⟨vn, vf, mb, ns, fr, root, D, o, rfl, hR, hS, hT, hp, hL, hns, _⟩ := hT
  obtain ⟨i, hi⟩ := tree_leaf hL hp hb
  have hat0 := hT.2.1 _ hi
  cases o with
  | none => cases hi
  | some T0 =>
    obtain ⟨c, hpl⟩ := T0.find _ hi []
    simp only [plug] at hpl
    have hMid := (show St ns fr root (some (plug c (.leaf i h b))) by rw [← hpl]; exact hS).mid
    obtain ⟨x1, -⟩ := id hMid
    simp only [Hold] at x1
    have hil := (List.getElem?_eq_some_iff.1 x1).1
    obtain ⟨g, cap, hvn⟩ := hR.nodes (fun e => by rw [e] at hil; cases hil)
    subst hvn
    refine ⟨g, ns.length, cap, mb, i, by omega, fun W hW => ?_⟩
    have hRW := hR.below hW
    obtain ⟨p0, p1, p2, p3, p4, p5, _⟩ := node_cells hRW.2.1 x1
    obtain ⟨cc, hrun, hat, hwc⟩ := hRW.2.2.2.lookup_int law30 Try.underlying69 Try.underlying3 (zero3 _) (key30 hh)
    have hcc : (i : Int) = cc := by
      have h9 := (hat0 _).symm.trans hat
      injection h9 with h9
      injection h9
    subst hcc
    exact ⟨hRW.1.cell 1, hRW.1.cell 4, p0, p1, p2, p3, p4, p5, hrun⟩
/-- The keys met so far. -/
def Got (D : DataW Unit) (left : Lit → Bool) (ks : List Int) : Prop := ks.Nodup ∧ ∀ x : Int, x ∈ ks ↔ (Maps.has D (.int .i64 x) = true ∧ left (.int .i64 x) = false)
theorem Got.start (D : DataW Unit) : Got D (Maps.has D) [] := ⟨List.nodup_nil, fun x => by cases Maps.has D (.int .i64 x) <;> simp⟩
theorem Got.step {D : DataW Unit} {left : Lit → Bool} {ks : List Int} (h : Got D left ks) {x : Int} {y : DataW Unit} (hl : left (.int .i64 x) = true) (hat : ∀ zd, D.atKey (.int .i64 x) zd = y) : Got D (fun z => left z && !z.sameKey (.int .i64 x)) (ks ++ [x]) := by
  have hhas : Maps.has D (.int .i64 x) = true := has_true_of_atKey hat
  have hnew : x ∉ ks := fun hx => by have := ((h.2 x).1 hx).2; rw [hl] at this; cases this
  refine ⟨List.nodup_append.2 ⟨h.1, by simp, fun a ha b hb => by simp at hb; subst hb; exact fun e => hnew (e ▸ ha)⟩, fun y => ?_⟩
  by_cases hy : y = x
  · subst hy; simp [hhas, Lit.sameKey]
  · simp [h.2 y, hy, Lit.sameKey]
theorem Got.sorted {D : DataW Unit} {left : Lit → Bool} {ks : List Int} {ls : List (Int × Nat × Bx)} {L : List Lf} (h : Got D left ks) (hl : ∀ kl, left kl = false) (hT : Tie D ls) (hp : (ls.map bare).Perm L) (hL : Rises L) : sortI ks = L.map (·.1) := by
  have hr : (L.map (·.1)).Pairwise (fun a b : Int => a < b) := by
    rw [List.pairwise_map]
    exact hL
  refine sortI_eq ((List.perm_ext_iff_of_nodup h.1 (hr.imp (fun h e => by omega))).2 fun x => ?_) hr
  rw [h.2 x, hl, tree_has hT hp]
  simp only [and_true, List.mem_map]
  unfold hasL
  rw [Option.isSome_iff_exists]
  constructor
  · rintro ⟨b, hb⟩
    exact ⟨_, (boxOf_some hL).1 hb, rfl⟩
  · rintro ⟨y, hy, rfl⟩
    exact ⟨y.2, (boxOf_some hL).2 hy⟩
end Go.Proofs.Ytadfmhjnmmmalaa
