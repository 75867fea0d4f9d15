/- EventDiffs, in plain lists: who does what a difference tells has the other set. -/
import Derived.Test.YtlcmjpligaiadaaWh
import Derived.Test.YtlcmjpligaiadaaWe
namespace Go.Proofs.Ytlcmjpligaiadaa
open Go.RowKit
/-- Behind k steps of the difference from A to B. -/
structure Done2 (A B : List Pr) (k : Nat) (C : List Pr) : Prop where
  rising : Rising C
  mem : ∀ q, q ∈ C ↔ (q ∈ A ∨ q ∈ (beyP B A).take k) ∧ q ∉ (beyP A B).take (k - (beyP B A).length)
  len : C.length ≤ A.length + (beyP B A).length
  len1 : k ≤ (beyP B A).length → C.length ≤ A.length + k
theorem mem_take_iff {l : List Pr} {k : Nat} {q : Pr} : q ∈ l.take k ↔ ∃ i, i < k ∧ l[i]? = some q := by
  constructor
  · intro h
    obtain ⟨i, hi⟩ := List.getElem?_of_mem h
    have hlt := (List.getElem?_eq_some_iff.1 hi).1
    rw [List.length_take] at hlt
    rw [List.getElem?_take_of_lt (by omega)] at hi
    exact ⟨i, by omega, hi⟩
  · rintro ⟨i, hi, h⟩
    have : (l.take k)[i]? = some q := by rw [List.getElem?_take_of_lt hi]; exact h
    exact List.mem_of_getElem? this
theorem rising_inj {l : List Pr} (hr : Rising l) {i j : Nat} {q : Pr} (hi : l[i]? = some q) (hj : l[j]? = some q) : i = j := by
  rcases Nat.lt_trichotomy i j with h | h | h
  · exact (ltP_irrefl _ (hr.at h hi hj)).elim
  · exact h
  · exact (ltP_irrefl _ (hr.at h hj hi)).elim
theorem beyP_rising {l m : List Pr} (h : Rising l) : Rising (beyP l m) := h.filter _
theorem beyP_iff {l m : List Pr} {q : Pr} : q ∈ beyP l m ↔ q ∈ l ∧ q ∉ m := by
  unfold beyP
  rw [List.mem_filter]
  simp [hasP]
theorem Done2.start {A B : List Pr} (hA : Rising A) : Done2 A B 0 A := ⟨hA, by simp, by omega, fun _ => by omega⟩
theorem Done2.put {A B C : List Pr} {k : Nat} {p : Pr} (hB : Rising B) (d : Done2 A B k C) (hk : (beyP B A)[k]? = some p) : p ∉ C ∧ Done2 A B (k + 1) (putP C p) := by
  have hlt := (List.getElem?_eq_some_iff.1 hk).1
  obtain ⟨hpB, hpA⟩ := beyP_iff.1 (List.mem_of_getElem? hk)
  have h0 : ∀ q, q ∉ (beyP A B).take (k - (beyP B A).length) := fun q => by rw [show k - (beyP B A).length = 0 by omega]; simp
  have hnew : p ∉ C := by
    rw [d.mem]
    rintro ⟨h | h, _⟩
    · exact hpA h
    · obtain ⟨i, hi, hi2⟩ := mem_take_iff.1 h
      have := rising_inj (beyP_rising hB) hi2 hk
      omega
  have hl := putP_len C p
  have hl1 := d.len1 (by omega)
  refine ⟨hnew, putP_rising d.rising hnew, fun q => ?_, by omega, fun _ => by omega⟩
  rw [putP_mem, d.mem, show k + 1 - (beyP B A).length = 0 by omega, List.take_add_one, hk]
  have := h0 q
  simp only [Option.toList_some, List.mem_append, List.mem_singleton, List.take_zero, List.not_mem_nil, not_false_eq_true, and_true]
  constructor
  · rintro (h | ⟨h | h, _⟩)
    · exact .inr (.inr h)
    · exact .inl h
    · exact .inr (.inl h)
  · rintro (h | h | h)
    · exact .inr ⟨.inl h, this⟩
    · exact .inr ⟨.inr h, this⟩
    · exact .inl h
theorem Done2.drop {A B C : List Pr} {k : Nat} {p : Pr} (hA : Rising A) (d : Done2 A B k C) (hn : (beyP B A).length ≤ k) (hk : (beyP A B)[k - (beyP B A).length]? = some p) : p ∈ C ∧ Done2 A B (k + 1) (drP C p) := by
  obtain ⟨hpA, hpB⟩ := beyP_iff.1 (List.mem_of_getElem? hk)
  have hin : p ∈ C := by
    rw [d.mem]
    refine ⟨.inl hpA, fun h => ?_⟩
    obtain ⟨i, hi, hi2⟩ := mem_take_iff.1 h
    have := rising_inj (beyP_rising hA) hi2 hk
    omega
  have hl := drP_le C p
  refine ⟨hin, drP_rising d.rising p, fun q => ?_, by have := d.len; omega, fun h => by omega⟩
  have e1 : (beyP B A).take (k + 1) = (beyP B A).take k := by rw [List.take_of_length_le (by omega), List.take_of_length_le hn]
  rw [show k + 1 - (beyP B A).length = (k - (beyP B A).length) + 1 by omega, e1, List.take_add_one (l := beyP A B), hk]
  unfold drP
  rw [List.mem_filter, d.mem]
  simp only [Option.toList_some, List.mem_append, List.mem_singleton, Bool.not_eq_true', decide_eq_false_iff_not]
  constructor
  · rintro ⟨⟨h1, h2⟩, h3⟩
    exact ⟨h1, fun h => h.elim h2 h3⟩
  · rintro ⟨h1, h2⟩
    exact ⟨⟨h1, fun h => h2 (.inl h)⟩, fun h => h2 (.inr h)⟩
theorem Done2.fin {A B C : List Pr} {k : Nat} (hB : Rising B) (d : Done2 A B k C) (hk : k = (beyP B A).length + (beyP A B).length) : C = B := by
  refine rising_ext d.rising hB fun q => ?_
  rw [d.mem, List.take_of_length_le (by omega), List.take_of_length_le (by omega), beyP_iff, beyP_iff]
  constructor
  · rintro ⟨h1 | h1, h2⟩
    · exact Decidable.byContradiction fun h => h2 ⟨h1, h⟩
    · exact h1.1
  · intro h
    by_cases hA : q ∈ A
    · exact ⟨.inl hA, fun h2 => h2.2 h⟩
    · exact ⟨.inr ⟨h, hA⟩, fun h2 => hA h2.1⟩
end Go.Proofs.Ytlcmjpligaiadaa
