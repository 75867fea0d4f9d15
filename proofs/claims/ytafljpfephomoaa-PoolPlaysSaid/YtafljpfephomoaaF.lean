/- Forests of roots, in plain Lean: what joining two trees does. -/
import Derived.Test.YtafljpfephomoaaA1
namespace Go.Proofs.Ytafljpfephomoaa
open Go.RowKit
theorem R_le {xs : List Int} (hf : Forest xs) : ∀ {i : Nat}, i < xs.length → R xs i ≤ i := by
  intro i
  induction i using Nat.strongRecOn with
  | _ i ih =>
    intro hi
    have h1 := hf.lo hi
    have h2 := hf.hi hi
    rw [R_eq hf hi]
    split
    · exact Nat.le_refl _
    · have := ih (xs.getD i 0).toNat (by omega) (by omega)
      omega
theorem R_root {xs : List Int} (hf : Forest xs) : ∀ {i : Nat}, i < xs.length → xs.getD (R xs i) 0 = (R xs i : Int) := by
  intro i
  induction i using Nat.strongRecOn with
  | _ i ih =>
    intro hi
    have h1 := hf.lo hi
    have h2 := hf.hi hi
    rw [R_eq hf hi]
    split
    · assumption
    · exact ih (xs.getD i 0).toNat (by omega) (by omega)
theorem R_of_root {xs : List Int} (hf : Forest xs) {i : Nat} (hi : i < xs.length) (h : xs.getD i 0 = i) : R xs i = i := by
  rw [R_eq hf hi, if_pos h]
theorem Forest.join {xs : List Int} (hf : Forest xs) {m l : Nat} (hm : m < xs.length) (hl : l ≤ m) : Forest (xs.set m l) := by
  intro j hj
  simp at hj
  rw [getD_set _ _ _ _ hm]
  split
  · omega
  · exact hf j hj
theorem R_join {xs : List Int} (hf : Forest xs) {m l : Nat} (hm : m < xs.length) (hl : l ≤ m) (hrm : xs.getD m 0 = m) (hrl : xs.getD l 0 = l) :
    ∀ j, j < xs.length → R (xs.set m l) j = if R xs j = m then l else R xs j := by
  have hf' := hf.join hm hl
  intro j
  induction j using Nat.strongRecOn with
  | _ j ih =>
    intro hj
    have h1 := hf.lo hj
    have h2 := hf.hi hj
    rw [R_eq hf' (by simpa using hj), getD_set _ _ _ _ hm]
    by_cases e : m = j
    · subst e
      rw [if_pos rfl, R_of_root hf hm hrm, if_pos rfl]
      by_cases e2 : l = m
      · subst e2; simp
      · rw [if_neg (by omega)]
        have := ih l (by omega) (by omega)
        simp only [Int.toNat_natCast]
        rw [this, R_of_root hf (by omega) hrl, if_neg e2]
    · rw [if_neg e]
      by_cases e2 : xs.getD j 0 = j
      · rw [if_pos e2, R_of_root hf hj e2, if_neg (by omega)]
      · rw [if_neg e2, ih _ (by omega) (by omega), R_eq hf hj, if_neg e2]

/-- A forest whose roots are g's numbers. -/
def Rep (xs : List Int) (n : Nat) (g : List Int) : Prop := xs.length = n ∧ g.length = n ∧ Forest xs ∧ ∀ j, j < n → (R xs j : Int) = g[j]?.getD 0
def joinTwo (g : List Int) (x y : Int) : List Int := g.map fun z => if z = max x y then min x y else z
def joinStep (n : Int) (ws : List Bool) (g : List Int) (p : Int × Int) : List Int :=
  if joinsB n ws p.1 && joinsB n ws p.2 then joinTwo g (g[p.1.toNat]?.getD 0) (g[p.2.toNat]?.getD 0) else g
def upTo (n : Nat) : List Int := (List.range n).map fun (i : Nat) => (i : Int)
def groupsTo (n : Nat) (ws : List Bool) (ls : List (Int × Int)) (k : Nat) : List Int := (ls.take k).foldl (joinStep n ws) (upTo n)
def groupsN (n : Nat) (ws : List Bool) (ls : List (Int × Int)) : List Int := ls.foldl (joinStep n ws) (upTo n)
theorem groupsTo_succ (n : Nat) (ws : List Bool) (ls : List (Int × Int)) (k : Nat) (h : k < ls.length) : groupsTo n ws ls (k + 1) = joinStep n ws (groupsTo n ws ls k) (ls[k]?.getD (0, 0)) := by
  unfold groupsTo
  rw [List.take_succ_eq_append_getElem h, List.foldl_append, List.getElem?_eq_getElem h]
  rfl
theorem groupsTo_all (n : Nat) (ws : List Bool) (ls : List (Int × Int)) : groupsTo n ws ls ls.length = groupsN n ws ls := by simp [groupsTo, groupsN]
theorem Rep.init (n : Nat) : Rep (upTo n) n (upTo n) := by
  have hl : (upTo n).length = n := by simp [upTo]
  have hg : ∀ j, j < n → (upTo n).getD j 0 = j := fun j hj => by simp [upTo, List.getD, hj]
  have hf : Forest (upTo n) := fun i hi => by rw [hl] at hi; rw [hg i hi]; omega
  refine ⟨hl, hl, hf, fun j hj => ?_⟩
  rw [R_of_root hf (by omega) (hg j hj)]
  have := hg j hj
  simp only [List.getD] at this
  rw [this]
theorem Rep.same {xs xs' : List Int} {n : Nat} {g : List Int} (h : Rep xs n g) (h1 : xs'.length = n) (h2 : Forest xs') (h3 : ∀ j, j < n → R xs' j = R xs j) : Rep xs' n g :=
  ⟨h1, h.2.1, h2, fun j hj => by rw [h3 j hj]; exact h.2.2.2 j hj⟩
theorem Rep.join {xs : List Int} {n : Nat} {g : List Int} (h : Rep xs n g) {i j : Nat} (hi : i < n) (hj : j < n) :
    Rep (xs.set (max (R xs i) (R xs j)) ((min (R xs i) (R xs j) : Nat) : Int)) n (joinTwo g (g[i]?.getD 0) (g[j]?.getD 0)) := by
  obtain ⟨h1, h2, h3, h4⟩ := h
  have a1 := R_le h3 (i := i) (by omega)
  have a2 := R_le h3 (i := j) (by omega)
  have b1 := R_root h3 (i := i) (by omega)
  have b2 := R_root h3 (i := j) (by omega)
  have hm : max (R xs i) (R xs j) < xs.length := by omega
  have hl : min (R xs i) (R xs j) ≤ max (R xs i) (R xs j) := by omega
  have c1 : xs.getD (max (R xs i) (R xs j)) 0 = (max (R xs i) (R xs j) : Nat) := by
    rcases Nat.le_total (R xs i) (R xs j) with e | e
    · rw [Nat.max_eq_right e]; exact b2
    · rw [Nat.max_eq_left e]; exact b1
  have c2 : xs.getD (min (R xs i) (R xs j)) 0 = (min (R xs i) (R xs j) : Nat) := by
    rcases Nat.le_total (R xs i) (R xs j) with e | e
    · rw [Nat.min_eq_left e]; exact b1
    · rw [Nat.min_eq_right e]; exact b2
  refine ⟨by simpa using h1, by simpa [joinTwo] using h2, h3.join hm hl, fun k hk => ?_⟩
  rw [R_join h3 hm hl c1 c2 k (by omega)]
  have hk' := h4 k hk
  rw [← h4 i hi, ← h4 j hj]
  simp only [joinTwo, List.getElem?_map]
  rw [List.getElem?_eq_getElem (by omega)] at hk' ⊢
  simp only [Option.getD_some, Option.map_some] at hk' ⊢
  rw [← hk']
  split <;> split <;> omega
end Go.Proofs.Ytafljpfephomoaa
