/- Pairs in order, in plain Lean. -/
import Derived.Test.YtlcmjpligaiadaaB1
import Derived.Test.YtlcmjpligaiadaaO
namespace Go.Proofs.Ytlcmjpligaiadaa
open Go.RowKit
abbrev Pr := Int × Int
def cmp1 (a b : Int) : Int := if a < b then -1 else if b < a then 1 else 0
def cmpP (p q : Pr) : Int := if cmp1 p.1 q.1 = 0 then cmp1 p.2 q.2 else cmp1 p.1 q.1
def ltP (p q : Pr) : Prop := p.1 < q.1 ∨ (p.1 = q.1 ∧ p.2 < q.2)
instance (p q : Pr) : Decidable (ltP p q) := by unfold ltP; infer_instance
theorem cmpP_lt (p q : Pr) : cmpP p q < 0 ↔ ltP p q := by
  unfold cmpP cmp1 ltP
  repeat' split
  all_goals omega
theorem cmpP_eq (p q : Pr) : cmpP p q = 0 ↔ p = q := by
  obtain ⟨a, b⟩ := p
  obtain ⟨c, d⟩ := q
  simp only [Prod.mk.injEq, cmpP, cmp1]
  repeat' split
  all_goals omega
theorem cmpP_bd (p q : Pr) : -1 ≤ cmpP p q ∧ cmpP p q ≤ 1 := by
  unfold cmpP cmp1
  repeat' split
  all_goals omega
theorem ltP_trans {p q r : Pr} (h : ltP p q) (k : ltP q r) : ltP p r := by unfold ltP at *; omega
theorem ltP_irrefl (p : Pr) : ¬ ltP p p := by unfold ltP; omega
theorem ltP_or (p q : Pr) : ltP p q ∨ p = q ∨ ltP q p := by
  obtain ⟨a, b⟩ := p
  obtain ⟨c, d⟩ := q
  simp only [ltP, Prod.mk.injEq]
  omega
abbrev Rising (l : List Pr) : Prop := l.Pairwise ltP
theorem Rising.at {l : List Pr} (h : Rising l) {i j : Nat} {p q : Pr} (hij : i < j) (hi : l[i]? = some p) (hj : l[j]? = some q) : ltP p q := by
  obtain ⟨h1, rfl⟩ := List.getElem?_eq_some_iff.1 hi
  obtain ⟨h2, rfl⟩ := List.getElem?_eq_some_iff.1 hj
  exact List.pairwise_iff_getElem.1 h i j h1 h2 hij
/-- Where a pair is, or would be. -/
def idxP (l : List Pr) (p : Pr) : Nat := (l.takeWhile fun q => decide (ltP q p)).length
theorem idxP_le (l : List Pr) (p : Pr) : idxP l p ≤ l.length := by
  unfold idxP; exact (List.takeWhile_sublist _).length_le
theorem idxP_below {l : List Pr} {p q : Pr} {i : Nat} (h : i < idxP l p) (hq : l[i]? = some q) : ltP q p := by
  induction l generalizing i with
  | nil => simp at hq
  | cons x l ih =>
    unfold idxP at h
    rw [List.takeWhile_cons] at h
    split at h
    · rename_i hx
      cases i with
      | zero => simp at hq; subst hq; simpa using hx
      | succ i =>
        simp only [List.length_cons] at h
        exact ih (i := i) (by unfold idxP; omega) (by simpa using hq)
    · simp at h
theorem idxP_at {l : List Pr} {p q : Pr} (hq : l[idxP l p]? = some q) : ¬ ltP q p := by
  induction l with
  | nil => simp at hq
  | cons x l ih =>
    unfold idxP at hq
    rw [List.takeWhile_cons] at hq
    split at hq
    · simp only [List.length_cons, List.getElem?_cons_succ] at hq
      exact ih hq
    · rename_i hx
      simp at hq; subst hq; simpa using hx
theorem idxP_above {l : List Pr} (hr : Rising l) {p q : Pr} {i : Nat} (h : idxP l p ≤ i) (hq : l[i]? = some q) : ¬ ltP q p := by
  rcases Nat.lt_or_ge (idxP l p) i with h1 | h1
  · have hlt : idxP l p < l.length := Nat.lt_trans h1 (List.getElem?_eq_some_iff.1 hq).1
    have e := List.getElem?_eq_getElem hlt
    intro h2
    exact idxP_at e (ltP_trans (hr.at h1 e hq) h2)
  · obtain rfl : i = idxP l p := by omega
    exact idxP_at hq
/-- A place that has lesser ones ahead alone is that place. -/
theorem idxP_of {l : List Pr} {p : Pr} {i : Nat} (hi : i ≤ l.length) (h1 : ∀ j q, j < i → l[j]? = some q → ltP q p) (h2 : ∀ q, l[i]? = some q → ¬ ltP q p) : i = idxP l p := by
  have hle := idxP_le l p
  rcases Nat.lt_trichotomy i (idxP l p) with h | h | h
  · have hlt : i < l.length := by omega
    exact (h2 _ (List.getElem?_eq_getElem hlt) (idxP_below h (List.getElem?_eq_getElem hlt))).elim
  · exact h
  · have hlt : idxP l p < l.length := by omega
    exact (idxP_at (List.getElem?_eq_getElem hlt) (h1 _ _ h (List.getElem?_eq_getElem hlt))).elim
theorem mem_idx {l : List Pr} (hr : Rising l) (p : Pr) : p ∈ l ↔ l[idxP l p]? = some p := by
  constructor
  · intro h
    obtain ⟨i, hi⟩ := List.getElem?_of_mem h
    have h1 : ¬ i < idxP l p := fun h => ltP_irrefl p (idxP_below h hi)
    have h2 : ¬ idxP l p < i := fun h => by
      have hlt : idxP l p < l.length := Nat.lt_trans h (List.getElem?_eq_some_iff.1 hi).1
      have e := List.getElem?_eq_getElem hlt
      exact idxP_at e (hr.at h e hi)
    obtain rfl : i = idxP l p := by omega
    exact hi
  · exact fun h => List.mem_of_getElem? h
def hasP (l : List Pr) (p : Pr) : Bool := decide (p ∈ l)
/-- A pair is put where it belongs. -/
def putP (l : List Pr) (p : Pr) : List Pr := l.take (idxP l p) ++ p :: l.drop (idxP l p)
theorem putP_mem (l : List Pr) (p q : Pr) : q ∈ putP l p ↔ q = p ∨ q ∈ l := by
  unfold putP
  rw [List.mem_append, List.mem_cons]
  have : q ∈ l ↔ q ∈ l.take (idxP l p) ∨ q ∈ l.drop (idxP l p) := by rw [← List.mem_append, List.take_append_drop]
  rw [this]
  constructor
  · rintro (h | h | h)
    · exact .inr (.inl h)
    · exact .inl h
    · exact .inr (.inr h)
  · rintro (h | h | h)
    · exact .inr (.inl h)
    · exact .inl h
    · exact .inr (.inr h)
theorem putP_len (l : List Pr) (p : Pr) : (putP l p).length = l.length + 1 := by
  unfold putP
  have := idxP_le l p
  simp
  omega
theorem putP_rising {l : List Pr} (hr : Rising l) {p : Pr} (hp : p ∉ l) : Rising (putP l p) := by
  unfold putP
  have hr' := hr
  rw [← List.take_append_drop (idxP l p) l] at hr'
  obtain ⟨a1, a2, a3⟩ := List.pairwise_append.1 hr'
  have below : ∀ q ∈ l.take (idxP l p), ltP q p := by
    intro q hq
    obtain ⟨i, hi⟩ := List.getElem?_of_mem hq
    have hlt : i < idxP l p := by
      have := (List.getElem?_eq_some_iff.1 hi).1
      rw [List.length_take] at this
      omega
    rw [List.getElem?_take_of_lt hlt] at hi
    exact idxP_below hlt hi
  have above : ∀ q ∈ l.drop (idxP l p), ltP p q := by
    intro q hq
    obtain ⟨i, hi⟩ := List.getElem?_of_mem hq
    rw [List.getElem?_drop] at hi
    have h1 := idxP_above (p := p) hr (by omega) hi
    rcases ltP_or q p with h | h | h
    · exact (h1 h).elim
    · exact (hp (h ▸ List.mem_of_getElem? hi)).elim
    · exact h
  refine List.pairwise_append.2 ⟨a1, List.pairwise_cons.2 ⟨above, a2⟩, fun q hq r hr2 => ?_⟩
  rcases List.mem_cons.1 hr2 with rfl | h
  · exact below q hq
  · exact a3 q hq r h
theorem rising_ext {l m : List Pr} (hl : Rising l) (hm : Rising m) (h : ∀ p, p ∈ l ↔ p ∈ m) : l = m := by
  induction l generalizing m with
  | nil =>
    cases m with
    | nil => rfl
    | cons y m => have := (h y).2 (by simp); simp at this
  | cons x l ih =>
    cases m with
    | nil => have := (h x).1 (by simp); simp at this
    | cons y m =>
      obtain ⟨h1, h2⟩ := List.pairwise_cons.1 hl
      obtain ⟨h3, h4⟩ := List.pairwise_cons.1 hm
      have hxy : x = y := by
        rcases List.mem_cons.1 ((h x).1 (by simp)) with e | e
        · exact e
        · rcases List.mem_cons.1 ((h y).2 (by simp)) with e2 | e2
          · exact e2.symm
          · exact (ltP_irrefl x (ltP_trans (h1 y e2) (h3 x e))).elim
      subst hxy
      rw [ih h2 h4 fun p => ?_]
      have := h p
      simp only [List.mem_cons] at this
      constructor
      · intro hp
        rcases this.1 (.inr hp) with rfl | e
        · exact (ltP_irrefl _ (h1 _ hp)).elim
        · exact e
      · intro hp
        rcases this.2 (.inr hp) with rfl | e
        · exact (ltP_irrefl _ (h3 _ hp)).elim
        · exact e
def pairCells (l : List Pr) : List Value := l.flatMap fun p => [.int .i64 p.1, .int .i64 p.2]
theorem pairs_len (l : List Pr) : (pairCells l).length = l.length * 2 := flat_len (f := fun p : Pr => [.int .i64 p.1, .int .i64 p.2]) (sz := 2) (fun _ => rfl) l
theorem pairs_get {l : List Pr} {k : Nat} {p : Pr} (h : l[k]? = some p) : (pairCells l)[k * 2]? = some (.int .i64 p.1) ∧ (pairCells l)[k * 2 + 1]? = some (.int .i64 p.2) := by
  refine ⟨?_, ?_⟩
  · have := flat_get (f := fun p : Pr => [.int .i64 p.1, .int .i64 p.2]) (sz := 2) (fun _ => rfl) l k 0 p h (by decide); unfold pairCells; simpa using this
  · have := flat_get (f := fun p : Pr => [.int .i64 p.1, .int .i64 p.2]) (sz := 2) (fun _ => rfl) l k 1 p h (by decide); unfold pairCells; simpa using this
theorem pairs_append (a b : List Pr) : pairCells (a ++ b) = pairCells a ++ pairCells b := by simp [pairCells]
theorem pairs_one (l : List Pr) : ∀ u ∈ pairCells l, u.oneCell' = true := by
  intro u hu
  unfold pairCells at hu
  rw [List.mem_flatMap] at hu
  obtain ⟨s, _, hu⟩ := hu
  simp only [List.mem_cons, List.not_mem_nil, or_false] at hu
  rcases hu with rfl | rfl <;> rfl
theorem pairs_take (l : List Pr) (k : Nat) : (pairCells l).take (k * 2) = pairCells (l.take k) := by
  induction l generalizing k with
  | nil => simp [pairCells]
  | cons p l ih =>
    cases k with
    | zero => simp [pairCells]
    | succ k =>
      have := ih k
      simp only [pairCells, List.flatMap_cons, List.take_succ_cons] at this ⊢
      rw [show (k + 1) * 2 = k * 2 + 1 + 1 by omega]
      simp only [List.cons_append, List.nil_append, List.take_succ_cons]
      rw [this]
theorem pairs_drop (l : List Pr) (k : Nat) : (pairCells l).drop (k * 2) = pairCells (l.drop k) := by
  induction l generalizing k with
  | nil => simp [pairCells]
  | cons p l ih =>
    cases k with
    | zero => simp [pairCells]
    | succ k =>
      have := ih k
      simp only [pairCells, List.flatMap_cons, List.drop_succ_cons] at this ⊢
      rw [show (k + 1) * 2 = k * 2 + 1 + 1 by omega]
      simp only [List.cons_append, List.nil_append, List.drop_succ_cons]
      rw [this]
end Go.Proofs.Ytlcmjpligaiadaa
