/- Members and who rests, in plain Lean. -/
import Derived.Test.YtafljpfephomoaaA4
namespace Go.Proofs.Ytafljpfephomoaa
open Go.RowKit
theorem memTo_mem {gs : List Int} {o : Int} {n : Nat} {x : Int} : x ∈ memTo gs o n ↔ ∃ i : Nat, i < n ∧ gs[i]?.getD 0 = o ∧ x = (i : Int) := by
  induction n with
  | zero => simp [memTo]
  | succ n ih =>
    unfold memTo
    split
    · rename_i h
      rw [List.mem_append, ih]
      constructor
      · rintro (⟨i, h1, h2, h3⟩ | h1)
        · exact ⟨i, by omega, h2, h3⟩
        · simp at h1; exact ⟨n, by omega, h, h1⟩
      · rintro ⟨i, h1, h2, h3⟩
        rcases Nat.lt_or_ge i n with h4 | h4
        · exact .inl ⟨i, h4, h2, h3⟩
        · obtain rfl : i = n := by omega
          exact .inr (by simp [h3])
    · rename_i h
      rw [ih]
      constructor
      · rintro ⟨i, h1, h2, h3⟩; exact ⟨i, by omega, h2, h3⟩
      · rintro ⟨i, h1, h2, h3⟩
        refine ⟨i, ?_, h2, h3⟩
        rcases Nat.lt_or_ge i n with h4 | h4
        · exact h4
        · obtain rfl : i = n := by omega
          exact (h h2).elim
theorem memTo_sorted (gs : List Int) (o : Int) (n : Nat) : (memTo gs o n).Pairwise (· < ·) := by
  induction n with
  | zero => simp [memTo]
  | succ n ih =>
    unfold memTo
    split
    · rw [List.pairwise_append]
      refine ⟨ih, by simp, fun a ha b hb => ?_⟩
      obtain ⟨i, h1, _, rfl⟩ := memTo_mem.1 ha
      simp at hb; subst hb; omega
    · exact ih
theorem memTo_at {gs : List Int} {o : Int} {n j : Nat} (hj : j < (memTo gs o n).length) : ∃ x : Nat, (memTo gs o n)[j]? = some (x : Int) ∧ x < n ∧ gs[x]?.getD 0 = o := by
  have := List.getElem_mem hj
  obtain ⟨i, h1, h2, h3⟩ := memTo_mem.1 this
  exact ⟨i, by rw [List.getElem?_eq_getElem hj, h3], h1, h2⟩
theorem memTo_rise {gs : List Int} {o : Int} {n j : Nat} {x y : Nat} (h1 : (memTo gs o n)[j]? = some (x : Int)) (h2 : (memTo gs o n)[j + 1]? = some (y : Int)) : x < y := by
  obtain ⟨a, a'⟩ := List.getElem?_eq_some_iff.1 h1
  obtain ⟨b, b'⟩ := List.getElem?_eq_some_iff.1 h2
  have := List.pairwise_iff_getElem.1 (memTo_sorted gs o n) j (j + 1) a b (by omega)
  rw [a', b'] at this
  omega
def loudTo (qs : List Int) (need : Int) (M : List Int) (j : Nat) : Bool := (M.take j).any fun x => decide (qs[x.toNat]?.getD 0 < need)
def ownTo (M : List Int) (i : Nat) (j : Nat) : Bool := (M.take j).any fun x => x == (i : Int)
theorem loudTo_succ {qs : List Int} {need : Int} {M : List Int} {j x : Nat} (h : M[j]? = some (x : Int)) : loudTo qs need M (j + 1) = (loudTo qs need M j || decide (qs[x]?.getD 0 < need)) := by
  obtain ⟨a, a'⟩ := List.getElem?_eq_some_iff.1 h
  unfold loudTo
  rw [List.take_succ_eq_append_getElem a, List.any_append, a']
  simp
theorem ownTo_succ {M : List Int} {i j x : Nat} (h : M[j]? = some (x : Int)) : ownTo M i (j + 1) = (ownTo M i j || ((x : Int) == (i : Int))) := by
  obtain ⟨a, a'⟩ := List.getElem?_eq_some_iff.1 h
  unfold ownTo
  rw [List.take_succ_eq_append_getElem a, List.any_append, a']
  simp
theorem loudB_iff {gs qs : List Int} {need : Int} {n : Nat} {g : Int} : loudB gs qs need n g = true ↔ ∃ i : Nat, i < n ∧ gs[i]?.getD 0 = g ∧ qs[i]?.getD 0 < need := by
  induction n with
  | zero => simp [loudB]
  | succ n ih =>
    simp only [loudB, Bool.or_eq_true, ih, Bool.and_eq_true, decide_eq_true_eq]
    constructor
    · rintro (⟨i, h1, h2, h3⟩ | ⟨h1, h2⟩)
      · exact ⟨i, by omega, h2, h3⟩
      · exact ⟨n, by omega, h1, h2⟩
    · rintro ⟨i, h1, h2, h3⟩
      rcases Nat.lt_or_ge i n with h4 | h4
      · exact .inl ⟨i, h4, h2, h3⟩
      · obtain rfl : i = n := by omega
        exact .inr ⟨h2, h3⟩
theorem loudTo_all (gs qs : List Int) (need : Int) (n : Nat) (g : Int) : loudTo qs need (memTo gs g n) (memTo gs g n).length = loudB gs qs need n g := by
  rw [Bool.eq_iff_iff, loudB_iff]
  unfold loudTo
  rw [List.take_length, List.any_eq_true]
  constructor
  · rintro ⟨x, hx, h⟩
    obtain ⟨i, h1, h2, rfl⟩ := memTo_mem.1 hx
    exact ⟨i, h1, h2, by simpa using h⟩
  · rintro ⟨i, h1, h2, h3⟩
    exact ⟨(i : Int), memTo_mem.2 ⟨i, h1, h2, rfl⟩, by simpa using h3⟩
theorem ownTo_all {gs : List Int} {n i : Nat} {g : Int} (hi : i < n) (hg : gs[i]?.getD 0 = g) : ownTo (memTo gs g n) i (memTo gs g n).length = true := by
  unfold ownTo
  rw [List.take_length, List.any_eq_true]
  exact ⟨(i : Int), memTo_mem.2 ⟨i, hi, hg, rfl⟩, by simp⟩
end Go.Proofs.Ytafljpfephomoaa
