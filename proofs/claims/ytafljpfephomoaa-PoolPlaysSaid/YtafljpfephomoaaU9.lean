/- A pool that is filled from its start: what Put and All say of it. Plain Lean; and the walk of All. -/
import Derived.Test.YtafljpfephomoaaU4
import Derived.Test.YtafljpfephomoaaU6
namespace Go.Proofs.Ytafljpfephomoaa
open Go.RowKit
variable {cp : Nat} {ex : List Value}
theorem all_any (p : Nat) (w : World) : Calls Try.prog 27 #[.pointer (some ⟨p, 0, none⟩)] w fun e w' => e = .returned (.func (.func 46) #[] #[.pointer (some ⟨w.heap.size, 0, none⟩)]) ∧ w' = w.alloc (.cells #[.pointer (some ⟨p, 0, none⟩)] 30) := by
  go_enter Try.func27, Try.ntmps27
  go_wp2
  go_ret
  exact ⟨rfl, rfl⟩
theorem freesTo_none {sl : List Slot} {m : Nat} (h : ∀ j, j < m → isFree sl j = false) : freesTo sl m = [] := by
  induction m with
  | zero => rfl
  | succ m ih =>
    simp only [freesTo, h m (by omega), Bool.false_eq_true, if_false]
    exact ih fun j hj => h j (by omega)
theorem freesTo_first {sl : List Slot} {m k : Nat} (h : ∀ j, j < k → isFree sl j = false) (hk : isFree sl k = true) (hm : k < m) : (freesTo sl m).head? = some k := by
  induction m with
  | zero => omega
  | succ m ih =>
    rcases Nat.lt_or_ge k m with h1 | h1
    · have := ih h1
      simp only [freesTo]
      split
      · rw [List.head?_append, this]; rfl
      · exact this
    · obtain rfl : k = m := by omega
      simp only [freesTo, hk, if_true, freesTo_none h]
      rfl
/-- The first k places have the first k things. -/
def filled (xs : List Int) (k n : Nat) : List Slot := (xs.take k).map (fun x => ⟨0, true, x⟩) ++ List.replicate (n - k) noSlot
theorem filled_zero (xs : List Int) (n : Nat) : filled xs 0 n = List.replicate n noSlot := by simp [filled]
theorem filled_len (xs : List Int) (k n : Nat) (h : k ≤ xs.length) (hn : k ≤ n) : (filled xs k n).length = n := by
  simp [filled]; omega
theorem filled_lt (xs : List Int) (k n j : Nat) (h : k ≤ xs.length) (hj : j < k) : (filled xs k n)[j]? = some ⟨0, true, xs[j]?.getD 0⟩ := by
  rw [filled, List.getElem?_append_left (by simp; omega), List.getElem?_map, List.getElem?_take_of_lt hj, List.getElem?_eq_getElem (by omega)]
  rfl
theorem filled_ge (xs : List Int) (k n j : Nat) (h : k ≤ xs.length) (hj : k ≤ j) (hn : j < n) : (filled xs k n)[j]? = some noSlot := by
  rw [filled, List.getElem?_append_right (by simp; omega), List.getElem?_replicate]
  simp
  omega
theorem filled_put (xs : List Int) (k n : Nat) (h : k ≤ xs.length) (hn : k < n) : putN (filled xs k n) n = some k := by
  refine freesTo_first (fun j hj => ?_) ?_ hn
  · simp only [isFree, filled_lt xs k n j h hj]; rfl
  · simp only [isFree, filled_ge xs k n k h (Nat.le_refl _) hn]; rfl
theorem filled_set (xs : List Int) (k n : Nat) (h : k < xs.length) (hn : k < n) : (filled xs k n).set k ⟨0, true, xs[k]?.getD 0⟩ = filled xs (k + 1) n := by
  apply List.ext_getElem?
  intro j
  rw [List.getElem?_set]
  split
  · rename_i e
    subst e
    rw [if_pos (by rw [filled_len xs k n (by omega) (by omega)]; exact hn), filled_lt xs (k + 1) n k (by omega) (by omega)]
  · rename_i e
    rcases Nat.lt_or_ge j k with h1 | h1
    · rw [filled_lt xs k n j (by omega) h1, filled_lt xs (k + 1) n j (by omega) (by omega)]
    · rcases Nat.lt_or_ge j n with h2 | h2
      · rw [filled_ge xs k n j (by omega) h1 h2, filled_ge xs (k + 1) n j (by omega) (by omega) h2]
      · rw [List.getElem?_eq_none (by rw [filled_len xs k n (by omega) (by omega)]; exact h2), List.getElem?_eq_none (by rw [filled_len xs (k + 1) n (by omega) (by omega)]; exact h2)]
def firstPairs (xs : List Int) (k : Nat) : List (Int × Int) := (List.range k).map fun (j : Nat) => ((j : Int) + 1, xs[j]?.getD 0)
theorem filled_all (xs : List Int) (k n : Nat) (h : k ≤ xs.length) : ∀ m, m ≤ n → allTo (filled xs k n) m = firstPairs xs (min m k) := by
  intro m
  induction m with
  | zero => intro _; simp [allTo, firstPairs]
  | succ m ih =>
    intro hm
    have ih := ih (by omega)
    rcases Nat.lt_or_ge m k with h1 | h1
    · simp only [allTo, filled_lt xs k n m h h1, if_true]
      rw [ih, Nat.min_eq_left (by omega), Nat.min_eq_left (by omega)]
      simp [firstPairs, List.range_succ]
    · simp only [allTo, filled_ge xs k n m h h1 (by omega), noSlot, Bool.false_eq_true, if_false]
      rw [ih, Nat.min_eq_right h1, Nat.min_eq_right (by omega)]
theorem firstPairs_len (xs : List Int) (k : Nat) : (firstPairs xs k).length = k := by simp [firstPairs]
theorem firstPairs_split {xs : List Int} {k : Nat} {pre post : List (Int × Int)} {x : Int × Int} (h : firstPairs xs k = pre ++ x :: post) : pre.length < k ∧ x = ((pre.length : Int) + 1, xs[pre.length]?.getD 0) := by
  have h1 : (firstPairs xs k)[pre.length]? = some x := by rw [h]; simp
  have h2 : pre.length < k := by
    have := congrArg List.length h
    rw [firstPairs_len] at this
    simp at this
    omega
  refine ⟨h2, ?_⟩
  rw [firstPairs, List.getElem?_map, List.getElem?_range h2] at h1
  exact (Option.some.inj h1).symm
end Go.Proofs.Ytafljpfephomoaa
