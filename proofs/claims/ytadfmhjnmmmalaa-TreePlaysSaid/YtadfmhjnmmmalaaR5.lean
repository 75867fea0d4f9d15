/- Trees: the reference's Put. -/
import Derived.Test.YtadfmhjnmmmalaaR4
namespace Go.Proofs.Ytadfmhjnmmmalaa
open Go.RowKit Go.Maps
/-- How many leaves stand before a handle. -/
def befL (L : List Lf) (h : Int) : Nat := (L.filter (fun x => decide (x.1 < h))).length
theorem bef_split {L : List Lf} (hL : Rises L) {h : Int} (hn : ∀ x ∈ L, x.1 ≠ h) : L.filter (fun x => decide (x.1 < h)) = L.take (befL L h) ∧ L.filter (fun x => decide (h < x.1)) = L.drop (befL L h) := by
  induction L with
  | nil => exact ⟨rfl, rfl⟩
  | cons x L ih =>
    have h1 := List.pairwise_cons.1 hL
    have ih' := ih h1.2 (fun y hy => hn y (List.mem_cons_of_mem _ hy))
    have hx := hn x (List.mem_cons_self ..)
    unfold befL at *
    by_cases hlt : x.1 < h
    · rw [List.filter_cons_of_pos (by simpa using hlt), List.filter_cons_of_neg (by simp; omega), List.length_cons, List.take_succ_cons, List.drop_succ_cons, ← ih'.1]
      exact ⟨rfl, ih'.2⟩
    · have he : L.filter (fun x => decide (x.1 < h)) = [] := List.filter_eq_nil_iff.2 (fun z hz => by have := h1.1 z hz; simp; omega)
      have hf : L.filter (fun x => decide (h < x.1)) = L := List.filter_eq_self.2 (fun z hz => by have := h1.1 z hz; simp; omega)
      rw [List.filter_cons_of_neg (by simpa using hlt), List.filter_cons_of_pos (by simp; omega), he, hf]
      exact ⟨rfl, rfl⟩
theorem bef_at {L : List Lf} (hL : Rises L) {h : Int} (hn : ∀ x ∈ L, x.1 ≠ h) {k : Nat} {x : Lf} (hx : L[k]? = some x) : (k < befL L h → x.1 < h) ∧ (befL L h ≤ k → h < x.1) := by
  obtain ⟨e1, e2⟩ := bef_split hL hn
  constructor
  · intro hk
    have : x ∈ L.take (befL L h) := by
      refine List.mem_of_getElem? (i := k) ?_
      rw [List.getElem?_take_of_lt hk]
      exact hx
    rw [← e1] at this
    simpa using (List.mem_filter.1 this).2
  · intro hk
    have : x ∈ L.drop (befL L h) := by
      refine List.mem_of_getElem? (i := k - befL L h) ?_
      rw [List.getElem?_drop, show befL L h + (k - befL L h) = k by omega]
      exact hx
    rw [← e2] at this
    simpa using (List.mem_filter.1 this).2
theorem bef_le (L : List Lf) (h : Int) : befL L h ≤ L.length := List.length_filter_le _ _
/-- The new list after k rounds. -/
def midL (L : List Lf) (h : Int) (g : Bx) (k : Nat) : List Lf := if befL L h < k then L.take (befL L h) ++ (h, g) :: (L.take k).drop (befL L h) else L.take k
theorem mid_zero (L : List Lf) (h : Int) (g : Bx) : midL L h g 0 = [] := by
  unfold midL
  rw [if_neg (by omega)]
  rfl
theorem mid_lt {L : List Lf} {h : Int} {g : Bx} {k : Nat} {x : Lf} (hk : k < befL L h) (hx : L[k]? = some x) : midL L h g (k + 1) = midL L h g k ++ [x] := by
  unfold midL
  rw [if_neg (by omega), if_neg (by omega), List.take_add_one, hx]
  rfl
theorem mid_eq {L : List Lf} {h : Int} {g : Bx} {k : Nat} {x : Lf} (hk : befL L h = k) (hx : L[k]? = some x) : midL L h g (k + 1) = (midL L h g k ++ [(h, g)]) ++ [x] := by
  have hlt := (List.getElem?_eq_some_iff.1 hx).1
  unfold midL
  rw [hk, if_pos (by omega), if_neg (by omega), List.take_add_one, hx, List.drop_append_of_le_length (by rw [List.length_take]; omega), List.drop_eq_nil_of_le (by rw [List.length_take]; omega)]
  simp
theorem mid_gt {L : List Lf} {h : Int} {g : Bx} {k : Nat} {x : Lf} (hk : befL L h < k) (hx : L[k]? = some x) : midL L h g (k + 1) = midL L h g k ++ [x] := by
  have hlt := (List.getElem?_eq_some_iff.1 hx).1
  unfold midL
  rw [if_pos (by omega), if_pos hk, List.take_add_one, hx, List.drop_append_of_le_length (by rw [List.length_take]; omega)]
  simp
theorem mid_len (L : List Lf) (h : Int) (g : Bx) (k : Nat) : (midL L h g k).length ≤ L.length + 1 := by
  have := bef_le L h
  unfold midL
  split
  · rw [List.length_append, List.length_cons, List.length_drop, List.length_take, List.length_take]; omega
  · rw [List.length_take]; omega
theorem mid_ins {L : List Lf} (hL : Rises L) {h : Int} (hn : ∀ x ∈ L, x.1 ≠ h) (g : Bx) : insL L h g = if befL L h < L.length then midL L h g L.length else midL L h g L.length ++ [(h, g)] := by
  obtain ⟨e1, e2⟩ := bef_split hL hn
  have hb := bef_le L h
  unfold insL midL
  rw [e1, e2, List.take_length]
  by_cases hk : befL L h < L.length
  · rw [if_pos hk, if_pos hk]
  · rw [if_neg hk, if_neg hk, List.take_of_length_le (by omega), List.drop_eq_nil_of_le (by omega)]
end Go.Proofs.Ytadfmhjnmmmalaa
