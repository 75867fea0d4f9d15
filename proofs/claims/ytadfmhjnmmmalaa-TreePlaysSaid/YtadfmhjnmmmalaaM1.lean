/- Trees: TreeMisses' plain facts. -/
import Derived.Test.YtadfmhjnmmmalaaL6
namespace Go.Proofs.Ytadfmhjnmmmalaa
open Go.RowKit Go.Maps
theorem mem_ins {L : List Lf} {h : Int} {b : Bx} {x : Lf} : x ∈ insL L h b ↔ x = (h, b) ∨ (x ∈ L ∧ x.1 ≠ h) := by
  unfold insL
  rw [List.mem_append, List.mem_cons, List.mem_filter, List.mem_filter]
  simp only [decide_eq_true_eq]
  constructor
  · rintro (⟨h1, h2⟩ | h1 | ⟨h1, h2⟩)
    · exact .inr ⟨h1, by omega⟩
    · exact .inl h1
    · exact .inr ⟨h1, by omega⟩
  · rintro (h1 | ⟨h1, h2⟩)
    · exact .inr (.inl h1)
    · rcases Int.lt_or_gt_of_ne h2 with h3 | h3
      · exact .inl ⟨h1, h3⟩
      · exact .inr (.inr ⟨h1, h3⟩)
theorem boxOf_ins {L : List Lf} (hL : Rises L) (h : Int) (b : Bx) (k : Int) : boxOf (insL L h b) k = if k = h then some b else boxOf L k := by
  apply Option.ext
  intro c
  rw [boxOf_some (ins_rises hL h b), mem_ins]
  by_cases hk : k = h
  · rw [if_pos hk]
    subst hk
    constructor
    · rintro (e | ⟨_, e⟩)
      · simp only [Prod.mk.injEq, true_and] at e
        rw [e]
      · exact absurd rfl e
    · intro e
      rw [Option.some.inj e]
      exact .inl rfl
  · rw [if_neg hk, boxOf_some hL]
    constructor
    · rintro (e | ⟨e, _⟩)
      · simp only [Prod.mk.injEq] at e
        exact absurd e.1 hk
      · exact e
    · exact fun e => .inr ⟨e, hk⟩
theorem boxOf_del {L : List Lf} (hL : Rises L) (h k : Int) : boxOf (delL L h) k = if k = h then none else boxOf L k := by
  apply Option.ext
  intro c
  rw [boxOf_some (del_rises hL h)]
  unfold delL
  rw [List.mem_filter]
  by_cases hk : k = h
  · rw [if_pos hk]
    subst hk
    simp
  · rw [if_neg hk, boxOf_some hL]
    simp [hk]
theorem rises_len : ∀ (L : List Lf) (lo : Int), lo ≤ 20 → Rises L → (∀ x ∈ L, lo < x.1 ∧ x.1 ≤ 20) → (L.length : Int) ≤ 20 - lo
  | [], lo, h, _, _ => by simp; omega
  | x :: L, lo, _, hL, hx => by
    have h1 := List.pairwise_cons.1 hL
    have h2 := hx x (List.mem_cons_self ..)
    have ih := rises_len L x.1 h2.2 h1.2 (fun y hy => ⟨h1.1 y hy, (hx y (List.mem_cons_of_mem _ hy)).2⟩)
    rw [List.length_cons]
    omega
theorem join_comm (a b : Bx) : joinB a b = joinB b a := by
  refine box_ext ?_ ?_ ?_ ?_ ?_ ?_ <;> simp only [joinB, imin_eq, imax_eq] <;> omega
theorem join_grown (b : Bx) : joinB (grownB b) b = grownB b := by
  refine box_ext ?_ ?_ ?_ ?_ ?_ ?_ <;> simp only [joinB, grownB, imin_eq, imax_eq] <;> omega
/-- The law's two lists tell the tree. -/
def Known (L : List Lf) (th : List Bool) (bx : List Bx) : Prop :=
  Rises L ∧ (∀ x ∈ L, 1 ≤ x.1 ∧ x.1 ≤ 20) ∧ th.length = 20 ∧ bx.length = 20 ∧
  (∀ k : Nat, k < 20 → th[k]? = some (hasL L ((k : Int) + 1))) ∧ ∀ (k : Nat) (a : Bx), boxOf L ((k : Int) + 1) = some a → ∃ b, bx[k]? = some b ∧ joinB a b = a
def noB : Bx := ⟨0, 0, 0, 0, 0, 0⟩
theorem Known.start : Known [] (List.replicate 20 false) (List.replicate 20 noB) :=
  ⟨List.Pairwise.nil, fun x hx => (by cases hx), by simp, by simp, fun k hk => by rw [List.getElem?_replicate, if_pos hk]; rfl, fun k a h => by cases h⟩
theorem Known.len {L : List Lf} {th : List Bool} {bx : List Bx} (h : Known L th bx) : L.length ≤ 20 := by
  have := rises_len L 0 (by decide) h.1 (fun x hx => by have := h.2.1 x hx; omega)
  omega
theorem Known.has {L : List Lf} {th : List Bool} {bx : List Bx} (h : Known L th bx) {k : Nat} (hk : k < 20) : th[k]? = some (hasL L ((k : Int) + 1)) := h.2.2.2.2.1 k hk
theorem Known.box {L : List Lf} {th : List Bool} {bx : List Bx} (h : Known L th bx) {k : Nat} (hk : k < 20) : ∃ b, bx[k]? = some b ∧ (hasL L ((k : Int) + 1) = true → joinB ((boxOf L ((k : Int) + 1)).getD noB) b = (boxOf L ((k : Int) + 1)).getD noB) := by
  obtain ⟨h1, h2, h3, h4, h5, h6⟩ := h
  cases e : boxOf L ((k : Int) + 1) with
  | none =>
    refine ⟨_, List.getElem?_eq_getElem (by omega), fun hh => ?_⟩
    unfold hasL at hh
    rw [e] at hh
    cases hh
  | some a =>
    obtain ⟨b, h7, h8⟩ := h6 k a e
    exact ⟨b, h7, fun _ => h8⟩
theorem hasL_ins {L : List Lf} (hL : Rises L) (h : Int) (b : Bx) (k : Int) : hasL (insL L h b) k = (decide (k = h) || hasL L k) := by
  unfold hasL
  rw [boxOf_ins hL]
  by_cases hk : k = h <;> simp [hk]
theorem hasL_del {L : List Lf} (hL : Rises L) (h k : Int) : hasL (delL L h) k = (!decide (k = h) && hasL L k) := by
  unfold hasL
  rw [boxOf_del hL]
  by_cases hk : k = h <;> simp [hk]
theorem set_at {α : Type} {l : List α} {k j : Nat} (v : α) (hk : k < l.length) : (l.set k v)[j]? = if j = k then some v else l[j]? := by
  rw [List.getElem?_set]
  by_cases h : k = j
  · subst h
    simp [hk]
  · simp [h, Ne.symm h]
theorem Known.drop {L : List Lf} {th : List Bool} {bx : List Bx} (h : Known L th bx) {k : Nat} (hk : k < 20) : Known (delL L ((k : Int) + 1)) (th.set k false) bx := by
  obtain ⟨h1, h2, h3, h4, h5, h6⟩ := h
  refine ⟨del_rises h1 _, fun x hx => h2 x (List.mem_filter.1 hx).1, by rw [List.length_set]; exact h3, h4, fun j hj => ?_, fun j a ha => ?_⟩
  · rw [set_at _ (by omega), hasL_del h1, h5 j hj]
    by_cases e : j = k
    · subst e; simp
    · rw [if_neg e, decide_eq_false (by omega)]; rfl
  · rw [boxOf_del h1] at ha
    by_cases e : (j : Int) + 1 = (k : Int) + 1
    · rw [if_pos e] at ha; cases ha
    · rw [if_neg e] at ha
      exact h6 j a ha
theorem Known.put {L : List Lf} {th : List Bool} {bx : List Bx} (h : Known L th bx) {k : Nat} (hk : k < 20) (b : Bx) : Known (insL L ((k : Int) + 1) (grownB b)) (th.set k true) (bx.set k b) := by
  obtain ⟨h1, h2, h3, h4, h5, h6⟩ := h
  refine ⟨ins_rises h1 _ _, fun x hx => ?_, by rw [List.length_set]; exact h3, by rw [List.length_set]; exact h4, fun j hj => ?_, fun j a ha => ?_⟩
  · rcases mem_ins.1 hx with rfl | ⟨h7, _⟩
    · show (1 : Int) ≤ (k : Int) + 1 ∧ (k : Int) + 1 ≤ 20
      omega
    · exact h2 x h7
  · rw [set_at _ (by omega), hasL_ins h1, h5 j hj]
    by_cases e : j = k
    · subst e; simp
    · rw [if_neg e, decide_eq_false (by omega)]; rfl
  · rw [boxOf_ins h1] at ha
    rw [set_at _ (by omega)]
    by_cases e : j = k
    · subst e
      rw [if_pos rfl] at ha ⊢
      rw [← Option.some.inj ha]
      exact ⟨b, rfl, join_grown b⟩
    · rw [if_neg e]
      rw [if_neg (by omega)] at ha
      exact h6 j a ha
theorem Known.keep {L : List Lf} {th : List Bool} {bx : List Bx} (h : Known L th bx) {k : Nat} (hk : k < 20) {a b : Bx} (ha : boxOf L ((k : Int) + 1) = some a) (hj : joinB b a = a) : Known L (th.set k true) (bx.set k b) := by
  obtain ⟨h1, h2, h3, h4, h5, h6⟩ := h
  refine ⟨h1, h2, by rw [List.length_set]; exact h3, by rw [List.length_set]; exact h4, fun j hj => ?_, fun j c hc => ?_⟩
  · rw [set_at _ (by omega), h5 j hj]
    by_cases e : j = k
    · subst e
      rw [if_pos rfl]
      unfold hasL
      rw [ha]
      rfl
    · rw [if_neg e]
  · rw [set_at _ (by omega)]
    by_cases e : j = k
    · subst e
      rw [if_pos rfl]
      rw [ha] at hc
      rw [← Option.some.inj hc]
      exact ⟨b, rfl, by rw [join_comm]; exact hj⟩
    · rw [if_neg e]
      exact h6 j c hc
/-- A Move of one who is there. -/
theorem Known.move {L : List Lf} {th : List Bool} {bx : List Bx} (h : Known L th bx) {k : Nat} (hk : k < 20) (hh : hasL L ((k : Int) + 1) = true) (b : Bx) : (moveR L ((k : Int) + 1) (boxN b)).2.1 = 0 ∧ Known (moveR L ((k : Int) + 1) (boxN b)).2.2 (th.set k true) (bx.set k (boxN b)) := by
  unfold hasL at hh
  obtain ⟨a, ha⟩ := Option.isSome_iff_exists.1 hh
  unfold moveR
  rw [ha]
  simp only
  rw [if_neg (by rw [boxN_may]; simp)]
  by_cases hj : joinB (boxN b) a = a
  · rw [if_pos hj]
    exact ⟨rfl, h.keep hk ha hj⟩
  · rw [if_neg hj]
    exact ⟨rfl, h.put hk _⟩
theorem Known.putR {L : List Lf} {th : List Bool} {bx : List Bx} (h : Known L th bx) {k : Nat} (hk : k < 20) (hh : hasL L ((k : Int) + 1) = false) (b : Bx) : (putR 64 L ((k : Int) + 1) (boxN b)).1 = 0 ∧ Known (putR 64 L ((k : Int) + 1) (boxN b)).2 (th.set k true) (bx.set k (boxN b)) := by
  have hl := h.len
  rw [show Ytadfmhjnmmmalaa.putR 64 L ((k : Int) + 1) (boxN b) = (0, insL L ((k : Int) + 1) (grownB (boxN b))) by
    unfold Ytadfmhjnmmmalaa.putR
    rw [if_neg, if_neg (by omega)]
    rintro (h2 | h2 | h2)
    · omega
    · rw [boxN_may] at h2; cases h2
    · rw [hh] at h2; cases h2]
  exact ⟨rfl, h.put hk _⟩
theorem pair_mem {L : List Lf} (hL : Rises L) {x y : Int} : (x, y) ∈ pairsL L ↔ x < y ∧ ∃ a b, boxOf L x = some a ∧ boxOf L y = some b ∧ meetB a b = true := by
  unfold pairsL rowP foundL
  simp only [List.mem_flatMap, List.mem_map, List.mem_filter, decide_eq_true_eq]
  constructor
  · rintro ⟨y1, hy1, z, ⟨⟨u, ⟨hu1, hu2⟩, rfl⟩, h3⟩, h4⟩
    simp only [Prod.mk.injEq] at h4
    obtain ⟨rfl, rfl⟩ := h4
    exact ⟨h3, y1.2, u.2, (boxOf_some hL).2 hy1, (boxOf_some hL).2 hu1, by rw [meet_comm]; exact hu2⟩
  · rintro ⟨h1, a, b, ha, hb, hm⟩
    exact ⟨(x, a), (boxOf_some hL).1 ha, y, ⟨⟨(y, b), ⟨(boxOf_some hL).1 hb, by rw [meet_comm]; exact hm⟩, rfl⟩, h1⟩, rfl⟩
theorem meet_wide {a b c d : Bx} (h1 : joinB a c = a) (h2 : joinB b d = b) (h3 : meetB c d = true) : meetB a b = true := by
  have g1 := congrArg Bx.x0 h1
  have g2 := congrArg Bx.y0 h1
  have g3 := congrArg Bx.z0 h1
  have g4 := congrArg Bx.x1 h1
  have g5 := congrArg Bx.y1 h1
  have g6 := congrArg Bx.z1 h1
  have k1 := congrArg Bx.x0 h2
  have k2 := congrArg Bx.y0 h2
  have k3 := congrArg Bx.z0 h2
  have k4 := congrArg Bx.x1 h2
  have k5 := congrArg Bx.y1 h2
  have k6 := congrArg Bx.z1 h2
  simp only [joinB, imin_eq, imax_eq] at g1 g2 g3 g4 g5 g6 k1 k2 k3 k4 k5 k6
  unfold meetB at *
  simp only [Bool.and_eq_true, decide_eq_true_eq] at *
  omega
/-- Is a pair told? -/
def toldB (L : List Lf) (x y : Int) : Bool := hasL L x && hasL L y && meetB ((boxOf L x).getD noB) ((boxOf L y).getD noB)
theorem told_iff {L : List Lf} (hL : Rises L) {x y : Int} (h : x < y) : decide ((x, y) ∈ pairsL L) = toldB L x y := by
  rw [Bool.eq_iff_iff, decide_eq_true_eq, pair_mem hL]
  unfold toldB hasL
  cases hx : boxOf L x <;> cases hy : boxOf L y <;> simp [h]
theorem told_meet {L : List Lf} {x y : Int} {c d : Bx} (hx : hasL L x = true) (hy : hasL L y = true) (h1 : hasL L x = true → joinB ((boxOf L x).getD noB) c = (boxOf L x).getD noB) (h2 : hasL L y = true → joinB ((boxOf L y).getD noB) d = (boxOf L y).getD noB) (h3 : meetB c d = true) : toldB L x y = true := by
  unfold toldB
  rw [hx, hy, meet_wide (h1 hx) (h2 hy) h3]
  rfl
end Go.Proofs.Ytadfmhjnmmmalaa
