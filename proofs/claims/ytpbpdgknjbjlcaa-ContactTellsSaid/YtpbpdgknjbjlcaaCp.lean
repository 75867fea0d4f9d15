/- Contacts: four of some spots. -/
import Derived.Test.YtpbpdgknjbjlcaaCo
import Derived.Test.YtpbpdgknjbjlcaaSt
import Derived.Sort.OwnSortedInts
namespace Go.Proofs.Ytpbpdgknjbjlcaa
open Go.RowKit
section
open Go.Shelf
def sortI (zs : List Int) : List Int := zs.mergeSort fun x y => decide (x ≤ y)
theorem sortI_len (zs : List Int) : (sortI zs).length = zs.length := List.length_mergeSort zs
theorem sortI_perm (zs : List Int) : (sortI zs).Perm zs := List.mergeSort_perm zs _
theorem sortI_le (zs : List Int) : (sortI zs).Pairwise (fun a b => a ≤ b) := by
  have := List.pairwise_mergeSort (le := fun x y : Int => decide (x ≤ y)) (fun a b c h1 h2 => by simp at *; omega) (fun a b => by simp; omega) zs
  exact this.imp (fun h => by simpa using h)
theorem sort42_any (base : Nat) (v : Value) (zs : List Int) (w : World) (hown : w.ownsRow base 3 1 v zs.length (ints zs)) (hl : zs.length < 1000000) :
    Calls Try.prog 42 #[v] w fun e w' => e = .returned (.tuple #[]) ∧ w'.ownsRow base 3 1 v zs.length (ints (sortI zs)) ∧ w.grownBy w' v.ownBlock := by
  rcases hown.2 with ⟨rfl, h0⟩ | ⟨g, cap, cur, rfl, hg, hh, hn, hcap, hs, hx⟩
  · have hz : zs = [] := List.length_eq_zero_iff.1 h0
    subst hz
    refine (AnyM.slices_Sort_int_none lsort none 0 w).mono ?_
    rintro e w' ⟨rfl, rfl⟩
    refine ⟨rfl, ?_, rfl, rfl, rfl, Nat.le_refl _, fun _ _ _ => rfl⟩
    have : sortI [] = [] := List.length_eq_zero_iff.1 (sortI_len [])
    rw [this]
    exact hown
  · have hH := holds_of_blockI (ss := zs) hh (by simpa using hx)
    refine (AnyM.slices_Sort_int lsort g 0 cap zs w hH (Array.getElem?_eq_some_iff.1 hh).1 (by omega)).mono ?_
    rintro e w' ⟨rfl, n, os, rfl⟩
    exact ⟨rfl, ownsRow_sortedI (sortI_len zs) hg hh hn hcap hs, grownBy_sortedI _⟩
end
def sortN (C : List Nat) : List Nat := C.mergeSort fun x y => decide (x ≤ y)
theorem sortN_len (C : List Nat) : (sortN C).length = C.length := List.length_mergeSort C
theorem sortN_perm (C : List Nat) : (sortN C).Perm C := List.mergeSort_perm C _
theorem sortN_le (C : List Nat) : (sortN C).Pairwise (fun a b => a ≤ b) := by
  have := List.pairwise_mergeSort (le := fun x y : Nat => decide (x ≤ y)) (fun a b c h1 h2 => by simp at *; omega) (fun a b => by simp; omega) C
  exact this.imp (fun h => by simpa using h)
theorem sortI_cast (C : List Nat) : sortI (C.map (fun k : Nat => (k : Int))) = (sortN C).map (fun k : Nat => (k : Int)) := by
  refine List.Perm.eq_of_pairwise (le := fun a b : Int => a ≤ b) (fun a b _ _ h1 h2 => Int.le_antisymm h1 h2) (sortI_le _) ?_ ((sortI_perm _).trans ((sortN_perm C).symm.map _))
  rw [List.pairwise_map]
  exact (sortN_le C).imp (fun h => by omega)
theorem idx_ints (C : List Nat) : idxCells C = ints (C.map (fun k : Nat => (k : Int))) := by simp [idxCells, ints]
theorem sort42_idx (base : Nat) (v : Value) (C : List Nat) (w : World) (hown : w.ownsRow base 3 1 v C.length (idxCells C)) (hl : C.length < 1000000) :
    Calls Try.prog 42 #[v] w fun e w' => e = .returned (.tuple #[]) ∧ w'.ownsRow base 3 1 v C.length (idxCells (sortN C)) ∧ w.grownBy w' v.ownBlock := by
  have h := sort42_any base v (C.map (fun k : Nat => (k : Int))) w (by rw [List.length_map, ← idx_ints]; exact hown) (by rw [List.length_map]; exact hl)
  rw [sortI_cast, ← idx_ints, List.length_map] at h
  exact h
theorem sort42_idx' (base : Nat) (v : Value) (C : List Nat) (T : Nat) (w : World) (hT : C.length = T) (hown : w.ownsRow base 3 1 v T (idxCells C)) (hl : T < 1000000) :
    Calls Try.prog 42 #[v] w fun e w' => e = .returned (.tuple #[]) ∧ w'.ownsRow base 3 1 v T (idxCells (sortN C)) ∧ w.grownBy w' v.ownBlock := by
  subst hT
  exact sort42_idx base v C w hown hl
/-- The chosen, one behind the other. -/
inductive Chain (l : List Sp) (n : Nat) : List Nat → Prop
  | one (m : Nat) (h : IsBest (fun i => (spAt l i).d) n m) : Chain l n [m]
  | snoc (C : List Nat) (m : Nat) (h : Chain l n C) (k : IsBest (farV l C) n m) : Chain l n (C ++ [m])
theorem Chain.ne {l : List Sp} {n : Nat} {C : List Nat} (h : Chain l n C) : C ≠ [] := by
  cases h <;> simp
theorem Chain.lt {l : List Sp} {n : Nat} {C : List Nat} (h : Chain l n C) : ∀ k ∈ C, k < n := by
  induction h with
  | one m h => intro k hk; simp at hk; subst hk; exact h.1
  | snoc C m _ h2 ih =>
    intro k hk
    rcases List.mem_append.1 hk with q | q
    · exact ih k q
    · simp at q; subst q; exact h2.1
theorem Chain.uniq {l : List Sp} {n : Nat} {C : List Nat} (h : Chain l n C) : ∀ {D : List Nat}, Chain l n D → C.length = D.length → C = D := by
  induction h with
  | one m hm =>
    intro D hD hl
    cases hD with
    | one m2 h2 => rw [best_one hm h2]
    | snoc D m2 h1 h2 => simp at hl; exact absurd hl h1.ne
  | snoc C m h1 h2 ih =>
    intro D hD hl
    cases hD with
    | one m2 h3 => simp at hl; exact absurd hl h1.ne
    | snoc D m2 h3 h4 =>
      have e := ih h3 (by simpa using hl)
      subst e
      rw [best_one h2 h4]
def IsFour (l r : List Sp) : Prop := (l.length ≤ 4 ∧ r = l) ∨ (4 < l.length ∧ ∃ C, Chain l l.length C ∧ C.length = 4 ∧ r = (sortN C).map (spAt l))
theorem four_one {l r q : List Sp} (h : IsFour l r) (k : IsFour l q) : r = q := by
  rcases h with ⟨h1, h2⟩ | ⟨h1, C, h2, h3, h4⟩
  · rcases k with ⟨k1, k2⟩ | ⟨k1, _⟩
    · rw [h2, k2]
    · omega
  · rcases k with ⟨k1, k2⟩ | ⟨k1, D, k2, k3, k4⟩
    · omega
    · rw [h4, k4, h2.uniq k2 (by omega)]
theorem own_addr {w : World} {base e : Nat} {v : Value} {n sz : Nat} {xs : List Value} (h : w.ownsRow base e sz v n xs) (hn : n ≠ 0) : ∃ g c, v = .slice (some ⟨g, 0, none⟩) n c := by
  rcases h.2 with ⟨_, h0⟩ | ⟨g, cap, cur, rfl, _⟩
  · omega
  · exact ⟨g, cap, rfl⟩
theorem info40 : (Try.prog.info? 40).map (fun i => (i.zero, i.size, i.bytes)) = some (some (.agg #[.int .i64 0, .int .i64 0, .int .i64 0, .int .i64 0, .int .i64 0]), 5, 40) := by kernel_rfl
theorem spCells_snoc (l : List Sp) (s : Sp) : spCells (l ++ [s]) = spCells l ++ s.cells := by simp [spCells]
end Go.Proofs.Ytpbpdgknjbjlcaa
