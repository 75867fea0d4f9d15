/- Trees: TreeEmpties' plain facts. -/
import Derived.Test.YtadfmhjnmmmalaaL5
namespace Go.Proofs.Ytadfmhjnmmmalaa
open Go.RowKit Go.Maps
def allB : Bx := ⟨-1073741824, -1073741824, -1073741824, 1073741824, 1073741824, 1073741824⟩
def AllIn (L : List Lf) : Prop := ∀ x ∈ L, meetB x.2 allB = true
theorem grown_all (b : Bx) : meetB (grownB (boxN b)) allB = true := by
  have := boxN_in b
  unfold meetB grownB allB
  simp only [Bool.and_eq_true, decide_eq_true_eq]
  omega
theorem laid_all (bs : List Bx) (k : Nat) : AllIn (laidL 0 (wideTo bs k)) := by
  intro x hx
  obtain ⟨i, h1, _⟩ := laid_in _ _ _ hx
  unfold wideTo at h1
  rw [List.getElem?_map] at h1
  obtain ⟨y, _, h2⟩ := Option.map_eq_some_iff.1 h1
  rw [← h2]
  exact grown_all y
theorem del_all {L : List Lf} (h : AllIn L) (k : Int) : AllIn (delL L k) := fun x hx => h x (List.mem_filter.1 hx).1
theorem found_all {L : List Lf} (h : AllIn L) : foundL L allB = L.map (·.1) := by
  unfold foundL
  rw [List.filter_eq_self.2 h]
/-- One of the handles is struck. -/
theorem del_at {L : List Lf} (hL : Rises L) {k : Nat} {h : Int} (hk : (L.map (·.1))[k]? = some h) :
    hasL L h = true ∧ (delL L h).map (·.1) = (L.map (·.1)).take k ++ (L.map (·.1)).drop (k + 1) ∧ (delL L h).length + 1 = L.length ∧ hasL (delL L h) h = false ∧ delL (delL L h) h = delL L h := by
  rw [List.getElem?_map] at hk
  obtain ⟨x, hx, rfl⟩ := Option.map_eq_some_iff.1 hk
  obtain ⟨hlt, hx2⟩ := List.getElem?_eq_some_iff.1 hx
  have hsp : L = L.take k ++ x :: L.drop (k + 1) := by
    conv => lhs; rw [← List.take_append_drop k L, List.drop_eq_getElem_cons hlt, hx2]
  have hp : Rises (L.take k ++ x :: L.drop (k + 1)) := by rw [← hsp]; exact hL
  have h1 := List.pairwise_append.1 hp
  have h2 := List.pairwise_cons.1 h1.2.1
  have hA : ∀ z ∈ L.take k, z.1 < x.1 := fun z hz => h1.2.2 z hz x (by simp)
  have hC : ∀ z ∈ L.drop (k + 1), x.1 < z.1 := fun z hz => h2.1 z hz
  have hd : delL L x.1 = L.take k ++ L.drop (k + 1) := by
    conv => lhs; rw [hsp]
    unfold delL
    rw [List.filter_append, List.filter_cons_of_neg (by simp), List.filter_eq_self.2 (fun z hz => by have := hA z hz; simp; omega), List.filter_eq_self.2 (fun z hz => by have := hC z hz; simp; omega)]
  have hno : ∀ z ∈ delL L x.1, z.1 ≠ x.1 := fun z hz => by
    have := (List.mem_filter.1 hz).2
    simpa using this
  refine ⟨?_, ?_, ?_, has_false hno, del_none hno⟩
  · unfold hasL
    rw [(boxOf_some hL (b := x.2)).2 (List.mem_of_getElem? hx)]
    rfl
  · rw [hd, List.map_append, List.map_take, List.map_drop]
  · rw [hd]
    conv => rhs; rw [hsp]
    simp only [List.length_append, List.length_cons]
    omega
theorem pairs_in {L : List Lf} {p : Pr} (h : p ∈ pairsL L) : (∃ x ∈ L, x.1 = p.1) ∧ ∃ x ∈ L, x.1 = p.2 := by
  unfold pairsL at h
  obtain ⟨y, hy, hp⟩ := List.mem_flatMap.1 h
  unfold rowP at hp
  obtain ⟨x, hx, rfl⟩ := List.mem_map.1 hp
  refine ⟨⟨y, hy, rfl⟩, ?_⟩
  obtain ⟨z, hz, rfl⟩ := List.mem_map.1 (List.mem_filter.1 hx).1
  exact ⟨z, (List.mem_filter.1 hz).1, rfl⟩
theorem pairs_not {L : List Lf} {h : Int} {p : Pr} (hp : p ∈ pairsL (delL L h)) : p.1 ≠ h ∧ p.2 ≠ h := by
  obtain ⟨⟨x, hx, e1⟩, y, hy, e2⟩ := pairs_in hp
  have h1 := (List.mem_filter.1 hx).2
  have h2 := (List.mem_filter.1 hy).2
  simp only [decide_eq_true_eq] at h1 h2
  exact ⟨e1 ▸ h1, e2 ▸ h2⟩
theorem pairs_len_le (L : List Lf) : (pairsL L).length ≤ L.length * L.length := by
  rw [← out_all]
  exact out_len L L.length
theorem laid_map_succ {bs : List Bx} {k : Nat} {x : Bx} (hx : bs[k]? = some x) : (laidL 0 (wideTo bs (k + 1))).map (·.1) = (laidL 0 (wideTo bs k)).map (·.1) ++ [(k : Int) + 1] := by
  have hl := wide_len (Nat.le_of_lt (List.getElem?_eq_some_iff.1 hx).1)
  rw [wide_succ hx, laid_snoc, hl, Nat.zero_add, List.map_append]
  rfl
end Go.Proofs.Ytadfmhjnmmmalaa
