/- Trees: what a tree holds, as a rising list of handles and boxes. -/
import Derived.Test.YtadfmhjnmmmalaaN5
namespace Go.Proofs.Ytadfmhjnmmmalaa
open Go.RowKit Go.Maps
abbrev Lf := Int × Bx
def Rises (L : List Lf) : Prop := L.Pairwise (fun a b => a.1 < b.1)
def insL (L : List Lf) (h : Int) (b : Bx) : List Lf := L.filter (fun x => decide (x.1 < h)) ++ (h, b) :: L.filter (fun x => decide (h < x.1))
def delL (L : List Lf) (h : Int) : List Lf := L.filter (fun x => decide (x.1 ≠ h))
def boxOf (L : List Lf) (h : Int) : Option Bx := (L.find? (fun x => decide (x.1 = h))).map (·.2)
def hasL (L : List Lf) (h : Int) : Bool := (boxOf L h).isSome
theorem Rises.uniq {L M : List Lf} (hL : Rises L) (hM : Rises M) (h : L.Perm M) : L = M := by
  refine List.Perm.eq_of_pairwise (le := fun a b : Lf => a.1 < b.1) (fun a b _ _ h1 h2 => ?_) hL hM h
  omega
theorem Rises.inj {L : List Lf} (hL : Rises L) {x y : Lf} (hx : x ∈ L) (hy : y ∈ L) (h : x.1 = y.1) : x = y := by
  obtain ⟨i, hi, rfl⟩ := List.getElem_of_mem hx
  obtain ⟨j, hj, rfl⟩ := List.getElem_of_mem hy
  rcases Nat.lt_trichotomy i j with h1 | h1 | h1
  · have := List.pairwise_iff_getElem.1 hL i j hi hj h1; omega
  · subst h1; rfl
  · have := List.pairwise_iff_getElem.1 hL j i hj hi h1; omega
theorem boxOf_some {L : List Lf} (hL : Rises L) {h : Int} {b : Bx} : boxOf L h = some b ↔ (h, b) ∈ L := by
  unfold boxOf
  constructor
  · intro e
    obtain ⟨x, hx, rfl⟩ := Option.map_eq_some_iff.1 e
    have h1 := List.mem_of_find?_eq_some hx
    have h2 := List.find?_some hx
    simp only [decide_eq_true_eq] at h2
    subst h2
    exact h1
  · intro hm
    cases e : L.find? (fun x => decide (x.1 = h)) with
    | none =>
      have := List.find?_eq_none.1 e (h, b) hm
      simp at this
    | some x =>
      have h1 := List.mem_of_find?_eq_some e
      have h2 := List.find?_some e
      simp only [decide_eq_true_eq] at h2
      have := hL.inj h1 hm h2
      subst this
      rfl
theorem boxOf_none {L : List Lf} {h : Int} : boxOf L h = none ↔ ∀ x ∈ L, x.1 ≠ h := by
  unfold boxOf
  rw [Option.map_eq_none_iff, List.find?_eq_none]
  simp
theorem ins_rises {L : List Lf} (hL : Rises L) (h : Int) (b : Bx) : Rises (insL L h b) := by
  unfold insL Rises
  refine List.pairwise_append.2 ⟨hL.filter _, List.pairwise_cons.2 ⟨fun x hx => ?_, hL.filter _⟩, fun x hx y hy => ?_⟩
  · have := (List.mem_filter.1 hx).2
    simpa using this
  · have h1 := (List.mem_filter.1 hx).2
    simp only [decide_eq_true_eq] at h1
    rcases List.mem_cons.1 hy with rfl | hy
    · exact h1
    · have h2 := (List.mem_filter.1 hy).2
      simp only [decide_eq_true_eq] at h2
      omega
theorem del_rises {L : List Lf} (hL : Rises L) (h : Int) : Rises (delL L h) := hL.filter _
theorem perm_parts : ∀ (L : List Lf) (h : Int), (L.filter (fun x => decide (x.1 < h)) ++ L.filter (fun x => decide (h < x.1))).Perm (delL L h)
  | [], _ => List.Perm.refl _
  | x :: L, h => by
    have ih := perm_parts L h
    unfold delL at *
    rcases Int.lt_trichotomy x.1 h with h1 | h1 | h1
    · rw [List.filter_cons_of_pos (by simpa using h1), List.filter_cons_of_neg (by simp; omega), List.filter_cons_of_pos (by simp; omega)]
      exact ih.cons x
    · rw [List.filter_cons_of_neg (by simp; omega), List.filter_cons_of_neg (by simp; omega), List.filter_cons_of_neg (by simp [h1])]
      exact ih
    · rw [List.filter_cons_of_neg (by simp; omega), List.filter_cons_of_pos (by simpa using h1), List.filter_cons_of_pos (by simp; omega)]
      exact List.perm_middle.trans (ih.cons x)
theorem del_none {L : List Lf} {h : Int} (hn : ∀ x ∈ L, x.1 ≠ h) : delL L h = L := List.filter_eq_self.2 (fun x hx => by simpa using hn x hx)
theorem ins_perm (L : List Lf) (h : Int) (b : Bx) : (insL L h b).Perm (delL L h ++ [(h, b)]) :=
  (List.perm_middle.trans ((perm_parts L h).cons _)).trans (List.perm_append_comm (l₁ := [(h, b)]))
theorem del_perm {L : List Lf} (hL : Rises L) {h : Int} {b : Bx} (hm : (h, b) ∈ L) : L.Perm (delL L h ++ [(h, b)]) := by
  have h1 := ins_perm L h b
  have h2 : insL L h b = L := by
    refine (ins_rises hL h b).uniq hL (h1.trans ?_)
    obtain ⟨A, B, rfl⟩ := List.append_of_mem hm
    have hp := List.pairwise_append.1 hL
    have hc := List.pairwise_cons.1 hp.2.1
    have e : delL (A ++ (h, b) :: B) h = A ++ B := by
      unfold delL
      rw [List.filter_append, List.filter_cons_of_neg (by simp), List.filter_eq_self.2 (fun x hx => by
        have := hp.2.2 x hx (h, b) (by simp)
        simp; omega), List.filter_eq_self.2 (fun x hx => by
        have := hc.1 x hx
        simp; omega)]
    rw [e]
    exact (List.perm_append_comm (l₁ := A ++ B) (l₂ := [(h, b)])).trans (List.perm_middle (a := (h, b)) (l₁ := A) (l₂ := B)).symm
  rw [h2] at h1
  exact h1
/-- A leaf without its number. -/
def bare (x : Int × Nat × Bx) : Lf := (x.1, x.2.2)
/-- What the map says. -/
def Tie (D : DataW Unit) (ls : List (Int × Nat × Bx)) : Prop :=
  (∀ h : Int, Maps.has D (.int .i64 h) = true ↔ ∃ x ∈ ls, x.1 = h) ∧ (∀ x ∈ ls, ∀ z, D.atKey (.int .i64 x.1) z = .lit (.int .i64 (x.2.1 : Int))) ∧ Maps.size D = ls.length
theorem Tie.perm {D : DataW Unit} {ls ms : List (Int × Nat × Bx)} (h : Tie D ls) (hp : ls.Perm ms) : Tie D ms :=
  ⟨fun k => (h.1 k).trans ⟨fun ⟨x, hx, e⟩ => ⟨x, hp.mem_iff.1 hx, e⟩, fun ⟨x, hx, e⟩ => ⟨x, hp.mem_iff.2 hx, e⟩⟩, fun x hx => h.2.1 x (hp.mem_iff.2 hx), h.2.2.trans hp.length_eq⟩
theorem keyLit (a : Int) : WideAt.IsKeyLit (.int .i64 a) := trivial
theorem litne {a b : Int} (h : a ≠ b) : Lit.int .i64 a ≠ Lit.int .i64 b := fun e => by injection e with _ e; exact h e
theorem Tie.put {D : DataW Unit} {ls : List (Int × Nat × Bx)} (h : Tie D ls) (ht : Tidy D) {k : Int} {j : Nat} {b : Bx} (hk : ∀ x ∈ ls, x.1 ≠ k) : Tie (D.put (.int .i64 k) (.lit (.int .i64 (j : Int)))) (ls ++ [(k, j, b)]) := by
  have hf : Maps.has D (.int .i64 k) = false := by
    cases e : Maps.has D (.int .i64 k) with
    | false => rfl
    | true => obtain ⟨x, hx, e2⟩ := (h.1 k).1 e; exact absurd e2 (hk x hx)
  refine ⟨fun a => ?_, fun x hx z => ?_, ?_⟩
  · by_cases ha : a = k
    · subst ha
      rw [has_put_same ht.isMap (keyLit _)]
      simp
    · rw [has_put_other (litne ha), h.1 a]
      simp only [List.mem_append, List.mem_singleton]
      constructor
      · rintro ⟨x, hx, e⟩; exact ⟨x, .inl hx, e⟩
      · rintro ⟨x, hx | rfl, e⟩
        · exact ⟨x, hx, e⟩
        · exact absurd e.symm ha
  · rcases List.mem_append.1 hx with hx | hx
    · rw [atKey_put_other (litne (hk x hx))]
      exact h.2.1 x hx z
    · simp only [List.mem_singleton] at hx
      subst hx
      rw [atKey_put_same ht.isMap (keyLit _)]
  · rw [size_put ht, hf, List.length_append, ← h.2.2]
    rfl
theorem Tie.del {D : DataW Unit} {ls : List (Int × Nat × Bx)} {x : Int × Nat × Bx} (h : Tie D (ls ++ [x])) (ht : Tidy D) (hk : ∀ y ∈ ls, y.1 ≠ x.1) : Tie (D.del (.int .i64 x.1)) ls := by
  refine ⟨fun a => ?_, fun y hy z => ?_, ?_⟩
  · by_cases ha : a = x.1
    · subst ha
      rw [has_del_same]
      simp only [Bool.false_eq_true, false_iff, not_exists, not_and]
      exact fun y hy => hk y hy
    · rw [has_del_other (litne ha), h.1 a]
      simp only [List.mem_append, List.mem_singleton]
      constructor
      · rintro ⟨y, hy | rfl, e⟩
        · exact ⟨y, hy, e⟩
        · exact absurd e.symm ha
      · rintro ⟨y, hy, e⟩; exact ⟨y, .inl hy, e⟩
  · rw [atKey_del_other (litne (hk y hy))]
    exact h.2.1 y (by simp [hy]) z
  · have h1 := size_del (D := D) (k := .int .i64 x.1) ht
    have h2 : Maps.has D (.int .i64 x.1) = true := (h.1 _).2 ⟨x, by simp, rfl⟩
    rw [h2, h.2.2, List.length_append] at h1
    simp only [if_true, List.length_singleton] at h1
    omega
theorem own_tight {w : World} {mb n : Nat} {D : DataW Unit} (h : MapR w mb n D) : MapR w mb (Maps.size D) D := by
  obtain ⟨es, clock, hh, F, hle, rfl⟩ := h
  refine ⟨es, clock, hh, F, ?_, rfl⟩
  rw [size_eq, length_sorted]
  simp
/-- A tree: its footprint, its room, its leaves. -/
def Tree (w : World) (t : Nat) (S : Nat → Prop) (room : Nat) (L : List Lf) : Prop :=
  ∃ vn vf mb ns fr root D o, S = Foot t vn vf mb ∧ Raw w t vn vf mb (room : Int) ns fr root L.length D ∧ St ns fr root o ∧ Tie D (oleaves o) ∧ ((oleaves o).map bare).Perm L ∧ Rises L ∧ ns.length ≤ 2048 ∧ L.length ≤ room ∧ room ≤ 1024 ∧ ∀ x ∈ L, In64 x.1
theorem Tree.lt {w : World} {t : Nat} {S : Nat → Prop} {room : Nat} {L : List Lf} (h : Tree w t S room L) : ∀ j, S j → j < w.heap.size := by
  obtain ⟨vn, vf, mb, ns, fr, root, D, o, rfl, hR, _⟩ := h
  exact hR.lt
theorem Tree.mod {M S : Nat → Prop} {w w' : World} {t : Nat} {room : Nat} {L : List Lf} (h : Tree w t S room L) (hM : Mod M w w') (hS : ∀ j, S j → ¬ M j) : Tree w' t S room L := by
  obtain ⟨vn, vf, mb, ns, fr, root, D, o, rfl, hR, r⟩ := h
  exact ⟨vn, vf, mb, ns, fr, root, D, o, rfl, hR.mod hM hS, r⟩
theorem Tree.below {S : Nat → Prop} {w w' : World} {t : Nat} {room : Nat} {L : List Lf} (h : Tree w t S room L) (hB : Below w.heap.size w w') : Tree w' t S room L := by
  obtain ⟨vn, vf, mb, ns, fr, root, D, o, rfl, hR, r⟩ := h
  exact ⟨vn, vf, mb, ns, fr, root, D, o, rfl, hR.below hB, r⟩
end Go.Proofs.Ytadfmhjnmmmalaa
