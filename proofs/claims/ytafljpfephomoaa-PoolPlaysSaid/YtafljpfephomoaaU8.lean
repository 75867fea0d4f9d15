/- PoolLays, plain: a pool into which another's things were laid. No walk. -/
import Derived.Test.YtafljpfephomoaaU7
import Derived.Test.YtafljpfephomoaaU9
namespace Go.Proofs.Ytafljpfephomoaa
open Go.RowKit
variable {cp : Nat} {ex : List Value}
/-- The first m places as they are, the others empty; empty ones at age 0. -/
def laid (sl : List Slot) (m : Nat) : List Slot := sl.mapIdx fun j s => if j < m ∧ s.full = true then s else noSlot
theorem laid_get {sl : List Slot} {m j : Nat} {s : Slot} (h : sl[j]? = some s) : (laid sl m)[j]? = some (if j < m ∧ s.full = true then s else noSlot) := by
  simp [laid, h]
theorem laid_len (sl : List Slot) (m : Nat) : (laid sl m).length = sl.length := by simp [laid]
theorem layN_hOf {sl : List Slot} {a : Int} {j : Nat} (hj : j < 1024) (ha : 0 ≤ a) (ha2 : a ≤ 1073741824) {s : Slot} (hs : sl[j]? = some s) :
    layN sl (hOf a j) = if s.full = true ∨ a < s.age then none else some j := by
  have h1 : ¬ hOf a j < 1 := by unfold hOf; omega
  have h2 : ¬ hOf a j % 65536 = 0 := by rw [hOf_mod hj]; omega
  have h3 : (hOf a j % 65536 - 1).toNat = j := by rw [hOf_mod hj]; omega
  have h4 : ¬ 1073741824 < a := by omega
  simp only [layN, if_neg h1, if_neg h2, h3, hs, hOf_div hj, if_neg h4]
theorem laid_full {sl : List Slot} {m : Nat} {s : Slot} (hs : sl[m]? = some s) (hf : s.full = true) : (laid sl m).set m s = laid sl (m + 1) := by
  have hm : m < sl.length := (List.getElem?_eq_some_iff.1 hs).1
  apply List.ext_getElem?
  intro j
  rw [List.getElem?_set]
  split
  · rename_i e
    subst e
    rw [if_pos (by rw [laid_len]; exact hm), laid_get hs, if_pos ⟨by omega, hf⟩]
  · rename_i e
    rcases Nat.lt_or_ge j sl.length with h1 | h1
    · have h2 := List.getElem?_eq_getElem h1
      rw [laid_get h2, laid_get h2]
      congr 1
      by_cases h3 : j < m
      · simp [h3, show j < m + 1 by omega]
      · simp [h3, show ¬ j < m + 1 by omega]
    · rw [List.getElem?_eq_none (by rw [laid_len]; exact h1), List.getElem?_eq_none (by rw [laid_len]; exact h1)]
theorem laid_skip {sl : List Slot} {m : Nat} {s : Slot} (hs : sl[m]? = some s) (hf : s.full = false) : laid sl (m + 1) = laid sl m := by
  apply List.ext_getElem?
  intro j
  rcases Nat.lt_or_ge j sl.length with h1 | h1
  · have h2 := List.getElem?_eq_getElem h1
    rw [laid_get h2, laid_get h2]
    congr 1
    by_cases h3 : j = m
    · subst h3
      rw [h2] at hs
      obtain rfl := Option.some.inj hs
      simp [hf]
    · by_cases h4 : j < m
      · simp [h4, show j < m + 1 by omega]
      · simp [h4, show ¬ j < m + 1 by omega]
  · rw [List.getElem?_eq_none (by rw [laid_len]; exact h1), List.getElem?_eq_none (by rw [laid_len]; exact h1)]
theorem laid_zero (sl : List Slot) : laid sl 0 = List.replicate sl.length noSlot := by
  apply List.ext_getElem?
  intro j
  rw [List.getElem?_replicate]
  rcases Nat.lt_or_ge j sl.length with h1 | h1
  · rw [laid_get (List.getElem?_eq_getElem h1), if_pos h1]; simp
  · rw [List.getElem?_eq_none (by rw [laid_len]; exact h1), if_neg (by omega)]
/-- Each thing that All gives stands at a full place, and what was given ahead of it stood ahead of that place. -/
theorem allTo_at (sl : List Slot) : ∀ (m : Nat) (pre post : List (Int × Int)) (x : Int × Int), allTo sl m = pre ++ x :: post → ∃ j s, j < m ∧ sl[j]? = some s ∧ s.full = true ∧ x = (s.age * 65536 + j + 1, s.what) ∧ pre = allTo sl j := by
  intro m
  induction m with
  | zero => intro pre post x h; simp [allTo] at h
  | succ m ih =>
    intro pre post x h
    simp only [allTo] at h
    have lift : ∀ post, allTo sl m = pre ++ x :: post → ∃ j s, j < m + 1 ∧ sl[j]? = some s ∧ s.full = true ∧ x = (s.age * 65536 + j + 1, s.what) ∧ pre = allTo sl j := fun post h => by
      obtain ⟨j, s, h1, h2⟩ := ih pre post x h
      exact ⟨j, s, by omega, h2⟩
    split at h
    · rename_i s hs
      split at h
      · rename_i hf
        rcases List.eq_nil_or_concat post with rfl | ⟨post', y, rfl⟩
        · obtain ⟨h1, h2⟩ := List.append_inj' h rfl
          simp at h2
          exact ⟨m, s, by omega, hs, hf, h2.symm, h1.symm⟩
        · rw [List.concat_eq_append, ← List.cons_append, ← List.append_assoc] at h
          exact lift _ (List.append_inj' h rfl).1
      · exact lift _ h
    · exact lift _ h
theorem allTo_len (sl : List Slot) : ∀ m, m ≤ sl.length → (allTo sl m).length = cnt (sl.take m) := by
  intro m
  induction m with
  | zero => intro _; simp [allTo, cnt]
  | succ m ih =>
    intro h
    have hm : sl[m]? = some sl[m] := List.getElem?_eq_getElem (by omega)
    have ih := ih (by omega)
    rw [List.take_add_one, hm]
    simp only [allTo, hm, cnt, Option.toList_some, List.countP_append, List.countP_singleton] at ih ⊢
    split <;> simp_all
theorem get_full {sl : List Slot} {j : Nat} {s : Slot} (hj : j < 1024) (ha : 0 ≤ s.age) (hs : sl[j]? = some s) (hf : s.full = true) : getN sl (hOf s.age j) = (s.what, true) := by
  simp only [getN, atN_hOf hj ha hs, hf, and_self, if_true, Option.bind_some, hs]
theorem laid_out {sl : List Slot} {m : Nat} (h : sl[m]? = none) : laid sl (m + 1) = laid sl m := by
  have hm : sl.length ≤ m := by simpa using h
  apply List.ext_getElem?
  intro j
  rcases Nat.lt_or_ge j sl.length with h1 | h1
  · have h2 := List.getElem?_eq_getElem h1
    rw [laid_get h2, laid_get h2]
    simp [show j < m by omega, show j < m + 1 by omega]
  · rw [List.getElem?_eq_none (by rw [laid_len]; exact h1), List.getElem?_eq_none (by rw [laid_len]; exact h1)]
theorem allTo_mono (sl : List Slot) (a : Nat) : ∀ b, a ≤ b → (allTo sl a).length ≤ (allTo sl b).length := by
  intro b
  induction b with
  | zero => intro h; obtain rfl : a = 0 := by omega
            exact Nat.le_refl _
  | succ b ih =>
    intro h
    rcases Nat.lt_or_ge b a with h1 | h1
    · obtain rfl : a = b + 1 := by omega
      exact Nat.le_refl _
    · have := ih h1
      simp only [allTo]
      split
      · split
        · rw [List.length_append]; omega
        · exact this
      · exact this
theorem laid_of_le (sl : List Slot) (a : Nat) : ∀ b, a ≤ b → allTo sl a = allTo sl b → laid sl a = laid sl b := by
  intro b
  induction b with
  | zero => intro h _; obtain rfl : a = 0 := by omega
            rfl
  | succ b ih =>
    intro h e
    rcases Nat.lt_or_ge b a with h1 | h1
    · obtain rfl : a = b + 1 := by omega
      rfl
    · have hl := allTo_mono sl a b h1
      simp only [allTo] at e
      split at e
      · rename_i s hs
        split at e
        · rw [e, List.length_append] at hl
          simp only [List.length_cons, List.length_nil] at hl
          omega
        · rename_i hf
          rw [laid_skip hs (by simpa using hf)]
          exact ih h1 e
      · rename_i hs
        rw [laid_out hs]
        exact ih h1 e
theorem laid_of {sl : List Slot} {a b : Nat} (e : allTo sl a = allTo sl b) : laid sl a = laid sl b := by
  rcases Nat.le_total a b with h | h
  · exact laid_of_le sl a b h e
  · exact (laid_of_le sl b a h e.symm).symm
/-- What the next thing of a pool does to the one into which it is laid. -/
theorem laid_lay {sl : List Slot} {j : Nat} {s : Slot} (hj : j < 1024) (h0 : 0 ≤ s.age) (h1 : s.age ≤ 1073741824) (hs : sl[j]? = some s) (hf : s.full = true) :
    layN (laid sl j) (hOf s.age j) = some j ∧ (laid sl j).set j ⟨hOf s.age j / 65536, true, s.what⟩ = laid sl (j + 1) ∧ layN (laid sl (j + 1)) (hOf s.age j) = none := by
  refine ⟨?_, ?_, ?_⟩
  · rw [layN_hOf hj h0 h1 (laid_get hs)]
    simp [noSlot, show ¬ s.age < 0 by omega]
  · rw [hOf_div hj, ← laid_full hs hf]
    congr 1
    rw [← hf]
  · rw [layN_hOf hj h0 h1 (laid_get hs)]
    simp [hf]
theorem allTo_all (sl : List Slot) : (allTo sl sl.length).length = cnt sl := by
  rw [allTo_len sl _ (Nat.le_refl _), List.take_length]
end Go.Proofs.Ytafljpfephomoaa
