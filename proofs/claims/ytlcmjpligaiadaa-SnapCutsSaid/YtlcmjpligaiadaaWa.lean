/- slices.DeleteFunc over pairs; Without. -/
import Derived.Test.YtlcmjpligaiadaaW9
namespace Go.Proofs.Ytlcmjpligaiadaa
open Go.RowKit
/-- What is left without a handle. -/
def woP (l : List Pr) (h : Int) : List Pr := l.filter fun p => !ofH h p
theorem woP_snoc (l : List Pr) (h : Int) (p : Pr) : woP (l ++ [p]) h = if ofH h p = true then woP l h else woP l h ++ [p] := by
  unfold woP
  rw [List.filter_append]
  cases e : ofH h p <;> simp [e]
theorem woP_le (l : List Pr) (h : Int) : (woP l h).length ≤ l.length := List.length_filter_le _ _
theorem woP_all {l : List Pr} {h : Int} (hno : ∀ p ∈ l, ofH h p = false) : woP l h = l := by
  unfold woP
  rw [List.filter_eq_self]
  intro p hp
  simp [hno p hp]
theorem pairs_set (X : List Pr) (i : Nat) (p : Pr) (h : i < X.length) : ((pairCells X).set (i * 2) (.int .i64 p.1)).set (i * 2 + 1) (.int .i64 p.2) = pairCells (X.set i p) := by
  induction X generalizing i with
  | nil => simp at h
  | cons a X ih =>
    cases i with
    | zero => simp [pairCells]
    | succ i =>
      simp only [List.length_cons] at h
      have := ih i (by omega)
      simp only [pairCells] at this ⊢
      rw [List.set_cons_succ, List.flatMap_cons, List.flatMap_cons, ← this, show (i + 1) * 2 = i * 2 + 1 + 1 by omega]
      simp only [List.cons_append, List.nil_append, List.set_cons_succ]
theorem zeros_one (n : Nat) : ∀ v ∈ (Builtin.zeroCells #[Value.int .i64 0, .int .i64 0] n).toList, v.oneCell' = true := by
  intro v hv
  simp only [Builtin.zeroCells, Array.toList_map, Array.toList_range, List.mem_map] at hv
  obtain ⟨i, _, rfl⟩ := hv
  rcases Nat.mod_two_eq_zero_or_one i with h | h
  · simp [h]; rfl
  · simp [h]; rfl
/-- How far the deleting has come. -/
structure DelTo (l : List Pr) (h : Int) (n j i : Nat) (X : List Pr) : Prop where
  len : X.length = n
  lt : i < j
  jn : j ≤ n
  kept : X.take i = woP (l.take j) h
  rest : ∀ x, j ≤ x → X[x]? = l[x]?
theorem DelTo.i {l X : List Pr} {h : Int} {n j i : Nat} (d : DelTo l h n j i X) : (woP (l.take j) h).length = i := by
  have := congrArg List.length d.kept
  rw [List.length_take, d.len] at this
  have h1 := d.lt
  have h2 := d.jn
  omega
theorem DelTo.start {l : List Pr} {h : Int} {n i : Nat} (hl : l.length = n) (hf : l.findIdx? (ofH h) = some i) : DelTo l h n (i + 1) i l := by
  rw [List.findIdx?_eq_some_iff_getElem] at hf
  obtain ⟨hlt, h1, h2⟩ := hf
  refine ⟨hl, by omega, by omega, ?_, fun _ _ => rfl⟩
  rw [List.take_succ_eq_append_getElem hlt, woP_snoc, if_pos h1, woP_all]
  intro p hp
  obtain ⟨j, hj⟩ := List.getElem?_of_mem hp
  have hji : j < i := by
    have := (List.getElem?_eq_some_iff.1 hj).1
    rw [List.length_take] at this
    omega
  rw [List.getElem?_take_of_lt hji, List.getElem?_eq_getElem (by omega)] at hj
  obtain rfl := Option.some.inj hj
  simpa using h2 j hji
theorem DelTo.drop {l X : List Pr} {h : Int} {n j i : Nat} (d : DelTo l h n j i X) (hl : l.length = n) {p : Pr} (hp : l[j]? = some p) (hf : ofH h p = true) : DelTo l h n (j + 1) i X := by
  have hjl := (List.getElem?_eq_some_iff.1 hp).1
  refine ⟨d.len, by have := d.lt; omega, by omega, ?_, fun x hx => d.rest x (by omega)⟩
  rw [List.take_succ_eq_append_getElem hjl, woP_snoc]
  obtain ⟨_, rfl⟩ := List.getElem?_eq_some_iff.1 hp
  rw [if_pos hf]
  exact d.kept
theorem DelTo.keep {l X : List Pr} {h : Int} {n j i : Nat} (d : DelTo l h n j i X) (hl : l.length = n) {p : Pr} (hp : l[j]? = some p) (hf : ofH h p = false) : DelTo l h n (j + 1) (i + 1) (X.set i p) := by
  have hjl := (List.getElem?_eq_some_iff.1 hp).1
  have h1 := d.lt
  have h2 := d.len
  refine ⟨by simpa using h2, by omega, by omega, ?_, fun x hx => ?_⟩
  · rw [List.take_succ_eq_append_getElem hjl, woP_snoc]
    obtain ⟨_, rfl⟩ := List.getElem?_eq_some_iff.1 hp
    rw [if_neg (by rw [hf]; simp), ← d.kept, List.take_succ_eq_append_getElem (by simp; omega), List.take_set_of_le (Nat.le_refl _)]
    simp
  · rw [List.getElem?_set_ne (by omega)]
    exact d.rest x (by omega)
end Go.Proofs.Ytlcmjpligaiadaa
