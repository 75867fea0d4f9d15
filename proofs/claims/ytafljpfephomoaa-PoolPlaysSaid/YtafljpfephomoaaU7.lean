/- PoolOnce, plain: what the lists beside a pool say of it. No walk. -/
import Derived.Test.YtafljpfephomoaaU5
namespace Go.Proofs.Ytafljpfephomoaa
open Go.RowKit
variable {cp : Nat} {ex : List Value}
/-- A handle that was told: of place j at age a. -/
def hOf (a : Int) (j : Nat) : Int := a * 65536 + j + 1
theorem hOf_mod {a : Int} {j : Nat} (hj : j < 1024) : hOf a j % 65536 = (j : Int) + 1 := by unfold hOf; omega
theorem hOf_div {a : Int} {j : Nat} (hj : j < 1024) : hOf a j / 65536 = a := by unfold hOf; omega
theorem hOf_inj {a b : Int} {i j : Nat} (hi : i < 1024) (hj : j < 1024) (h : hOf a i = hOf b j) : a = b ∧ i = j := by unfold hOf at h; omega
theorem atN_hOf {sl : List Slot} {a : Int} {j : Nat} (hj : j < 1024) (ha : 0 ≤ a) {s : Slot} (hs : sl[j]? = some s) :
    atN sl (hOf a j) = if s.full = true ∧ s.age = a then some j else none := by
  have h1 : ¬ hOf a j < 1 := by unfold hOf; omega
  have h2 : ¬ hOf a j % 65536 = 0 := by rw [hOf_mod hj]; omega
  have h3 : (hOf a j % 65536 - 1).toNat = j := by rw [hOf_mod hj]; omega
  simp only [atN, if_neg h1, if_neg h2, h3, hs, hOf_div hj]
/-- What the lists beside a pool say of it, after d steps. -/
structure Once (n d : Nat) (sl : List Slot) (told : List Int) (what : List Int) (there : List Bool) : Prop where
  len : sl.length = n
  room : n ≤ 1024
  lw : what.length = told.length
  lt : there.length = told.length
  ages : ∀ s ∈ sl, 0 ≤ s.age ∧ s.age ≤ d
  unlike : ∀ (i k : Nat) (h : Int), told[i]? = some h → told[k]? = some h → i = k
  each : ∀ (k : Nat) (h : Int), told[k]? = some h → ∃ (a : Int) (j : Nat) (s : Slot), h = hOf a j ∧ j < n ∧ 0 ≤ a ∧ sl[j]? = some s ∧
    ((there[k]? = some true ∧ s.full = true ∧ s.age = a ∧ what[k]? = some s.what) ∨ (there[k]? = some false ∧ a < s.age))
theorem Once.start (n : Nat) (hn : n ≤ 1024) : Once n 0 (List.replicate n ⟨0, false, 0⟩) [] [] [] :=
  ⟨by simp, hn, rfl, rfl, fun s hs => by obtain ⟨_, rfl⟩ := List.mem_replicate.1 hs; simp, fun i k h h1 => by simp at h1, fun k h h1 => by simp at h1⟩
theorem Once.later {n d e : Nat} {sl : List Slot} {told what : List Int} {there : List Bool} (h : Once n d sl told what there) (he : d ≤ e) : Once n e sl told what there :=
  ⟨h.len, h.room, h.lw, h.lt, fun s hs => by have := h.ages s hs; omega, h.unlike, h.each⟩
/-- What Get says of a handle that was told. -/
theorem Once.get {n d : Nat} {sl : List Slot} {told what : List Int} {there : List Bool} (h : Once n d sl told what there) {k : Nat} (hk : k < told.length) :
    getN sl (told[k]?.getD 0) = if there[k]?.getD false = true then (what[k]?.getD 0, true) else (0, false) := by
  have e : told[k]? = some told[k] := List.getElem?_eq_getElem hk
  obtain ⟨a, j, s, e1, hj, ha, hs, h4⟩ := h.each k _ e
  have hj' : j < 1024 := by have := h.room; omega
  rw [e, Option.getD_some, e1]
  simp only [getN, atN_hOf hj' ha hs]
  rcases h4 with ⟨h5, h6, h7, h8⟩ | ⟨h5, h6⟩
  · rw [if_pos ⟨h6, h7⟩, h5, h8]
    simp [hs]
  · rw [if_neg (fun hh => by omega), h5]
    simp
theorem Once.at {n d : Nat} {sl : List Slot} {told what : List Int} {there : List Bool} (h : Once n d sl told what there) {k : Nat} (hk : k < told.length) :
    (there[k]?.getD false = false ∧ atN sl (told[k]?.getD 0) = none) ∨ (there[k]?.getD false = true ∧ ∃ j s, atN sl (told[k]?.getD 0) = some j ∧ sl[j]? = some s ∧ s.full = true ∧ told[k]?.getD 0 = hOf s.age j) := by
  have e : told[k]? = some told[k] := List.getElem?_eq_getElem hk
  obtain ⟨a, j, s, e1, hj, ha, hs, h4⟩ := h.each k _ e
  have hj' : j < 1024 := by have := h.room; omega
  rw [e, Option.getD_some, e1]
  rcases h4 with ⟨h5, h6, h7, h8⟩ | ⟨h5, h6⟩
  · exact .inr ⟨by rw [h5]; rfl, j, s, by rw [atN_hOf hj' ha hs, if_pos ⟨h6, h7⟩], hs, h6, by rw [h7]⟩
  · exact .inl ⟨by rw [h5]; rfl, by rw [atN_hOf hj' ha hs, if_neg (fun hh => by omega)]⟩
/-- A thing is dropped by a handle that was told. -/
theorem Once.drop {n d : Nat} {sl : List Slot} {told what : List Int} {there : List Bool} (h : Once n d sl told what there) {k : Nat} (hk : k < told.length)
    {j : Nat} {s : Slot} (hs : sl[j]? = some s) (ht : told[k]?.getD 0 = hOf s.age j) : Once n (d + 1) (sl.set j ⟨s.age + 1, false, 0⟩) told what (there.set k false) := by
  have e : told[k]? = some told[k] := List.getElem?_eq_getElem hk
  rw [e, Option.getD_some] at ht
  have hjl : j < sl.length := (List.getElem?_eq_some_iff.1 hs).1
  have hj' : j < 1024 := by have := h.room; have := h.len; omega
  refine ⟨by simpa using h.len, h.room, h.lw, by simpa using h.lt, ?_, h.unlike, ?_⟩
  · intro x hx
    rcases List.mem_or_eq_of_mem_set hx with hx | rfl
    · have := h.ages x hx; omega
    · have := h.ages s (List.mem_of_getElem? hs)
      simp only
      omega
  · intro i x hi
    obtain ⟨a, j2, s2, e1, hj2, ha, hs2, h4⟩ := h.each i x hi
    have hj2' : j2 < 1024 := by have := h.room; omega
    by_cases hij : j = j2
    · subst hij
      rw [hs] at hs2
      obtain rfl := Option.some.inj hs2
      refine ⟨a, j, ⟨s.age + 1, false, 0⟩, e1, hj2, ha, by simp [hjl], .inr ⟨?_, ?_⟩⟩
      · rw [List.getElem?_set]
        split
        · rename_i hki
          rw [if_pos (by rw [h.lt]; exact hk)]
        · rename_i hki
          rcases h4 with ⟨_, _, h7, _⟩ | ⟨h5, _⟩
          · exact (hki (h.unlike k i x (by rw [e, ht, e1, h7]) hi)).elim
          · exact h5
      · simp only
        rcases h4 with ⟨_, _, h7, _⟩ | ⟨_, h6⟩ <;> omega
    · refine ⟨a, j2, s2, e1, hj2, ha, by rw [List.getElem?_set_ne hij]; exact hs2, ?_⟩
      have hki : k ≠ i := by
        rintro rfl
        rw [e] at hi
        have := hOf_inj hj' hj2' (ht.symm.trans ((Option.some.inj hi).trans e1))
        exact hij this.2
      rw [List.getElem?_set_ne hki]
      exact h4
theorem Once.gone {n d : Nat} {sl : List Slot} {told what : List Int} {there : List Bool} (h : Once n d sl told what there) {k : Nat} (hk : k < told.length) (ht : there[k]?.getD false = false) : there.set k false = there := by
  have hl : k < there.length := by rw [h.lt]; exact hk
  apply List.ext_getElem?
  intro i
  rw [List.getElem?_set]
  split
  · rename_i e; subst e
    rw [List.getElem?_eq_getElem hl] at ht ⊢
    simpa using ht.symm
  · rfl
/-- A thing is put into a free place. -/
theorem Once.put {n d : Nat} {sl : List Slot} {told what : List Int} {there : List Bool} (h : Once n d sl told what there) {j : Nat} {s : Slot} (hs : sl[j]? = some s) (hf : s.full = false) (x : Int) :
    (∀ k, k < told.length → told[k]?.getD 0 ≠ hOf s.age j) ∧ Once n (d + 1) (sl.set j ⟨s.age, true, x⟩) (told ++ [hOf s.age j]) (what ++ [x]) (there ++ [true]) := by
  have hjl : j < sl.length := (List.getElem?_eq_some_iff.1 hs).1
  have hn := h.len
  have hj' : j < 1024 := by have := h.room; omega
  have hnew : ∀ (k : Nat), told[k]? ≠ some (hOf s.age j) := by
    intro k hk
    obtain ⟨a, j2, s2, e1, hj2, ha, hs2, h4⟩ := h.each k _ hk
    have hj2' : j2 < 1024 := by have := h.room; omega
    obtain ⟨e3, rfl⟩ := hOf_inj hj' hj2' e1
    rw [hs] at hs2
    obtain rfl := Option.some.inj hs2
    rcases h4 with ⟨_, h6, _⟩ | ⟨_, h6⟩
    · rw [hf] at h6; cases h6
    · omega
  refine ⟨fun k hk e => hnew k (by rw [List.getElem?_eq_getElem hk] at e ⊢; simpa using e), by simpa using hn, h.room, by simp [h.lw], by simp [h.lt], ?_, ?_, ?_⟩
  · intro y hy
    rcases List.mem_or_eq_of_mem_set hy with hy | rfl
    · have := h.ages y hy; omega
    · have := h.ages s (List.mem_of_getElem? hs)
      simp only
      omega
  · intro i k y hi hk
    rw [List.getElem?_append] at hi hk
    split at hi <;> split at hk
    · exact h.unlike i k y hi hk
    · rename_i h1 h2
      have : y = hOf s.age j := by
        rw [List.getElem?_singleton] at hk
        split at hk
        · exact (Option.some.inj hk).symm
        · cases hk
      exact (hnew i (this ▸ hi)).elim
    · rename_i h1 h2
      have : y = hOf s.age j := by
        rw [List.getElem?_singleton] at hi
        split at hi
        · exact (Option.some.inj hi).symm
        · cases hi
      exact (hnew k (this ▸ hk)).elim
    · rename_i h1 h2
      rw [List.getElem?_singleton] at hi hk
      split at hi
      · split at hk
        · omega
        · cases hk
      · cases hi
  · intro i y hi
    rw [List.getElem?_append] at hi
    split at hi
    · rename_i h1
      obtain ⟨a, j2, s2, e1, hj2, ha, hs2, h4⟩ := h.each i y hi
      have hl1 : i < there.length := by rw [h.lt]; exact h1
      have hl2 : i < what.length := by rw [h.lw]; exact h1
      rw [List.getElem?_append_left hl1, List.getElem?_append_left hl2]
      by_cases hij : j = j2
      · subst hij
        rw [hs] at hs2
        obtain rfl := Option.some.inj hs2
        refine ⟨a, j, ⟨s.age, true, x⟩, e1, hj2, ha, by simp [hjl], ?_⟩
        rcases h4 with ⟨_, h6, _⟩ | h4
        · rw [hf] at h6; cases h6
        · exact .inr h4
      · exact ⟨a, j2, s2, e1, hj2, ha, by rw [List.getElem?_set_ne hij]; exact hs2, h4⟩
    · rename_i h1
      rw [List.getElem?_singleton] at hi
      split at hi
      · rename_i h2
        have hi' : i = told.length := by omega
        have hage := h.ages s (List.mem_of_getElem? hs)
        refine ⟨s.age, j, ⟨s.age, true, x⟩, (Option.some.inj hi).symm, by omega, hage.1, by simp [hjl], .inl ⟨?_, rfl, rfl, ?_⟩⟩
        · rw [hi', ← h.lt]; simp
        · rw [hi', ← h.lw]; simp
      · cases hi
theorem freesTo_mem' {sl : List Slot} {m k : Nat} (hk : isFree sl k = true) (h : k < m) : k ∈ freesTo sl m := by
  induction m with
  | zero => omega
  | succ m ih =>
    simp only [freesTo]
    rcases Nat.lt_or_ge k m with h1 | h1
    · split
      · exact List.mem_append_left _ (ih h1)
      · exact ih h1
    · obtain rfl : k = m := by omega
      rw [if_pos hk]
      simp
theorem freesTo_spec {sl : List Slot} {m k : Nat} (h : k ∈ freesTo sl m) : k < m ∧ isFree sl k = true := by
  induction m with
  | zero => simp [freesTo] at h
  | succ m ih =>
    simp only [freesTo] at h
    split at h
    · rcases List.mem_append.1 h with h | h
      · have := ih h; exact ⟨by omega, this.2⟩
      · simp at h; subst h; exact ⟨by omega, by assumption⟩
    · have := ih h; exact ⟨by omega, this.2⟩
/-- There is a place as long as fewer than all are taken (ages small). -/
theorem put_none_iff {n d : Nat} {sl : List Slot} (hl : sl.length = n) (ha : ∀ s ∈ sl, 0 ≤ s.age ∧ s.age ≤ d) (hd : d ≤ 1000) : putN sl n = none ↔ ¬ cnt sl < n := by
  constructor
  · intro h hc
    have : ∃ s ∈ sl, s.full = false := by
      apply Classical.byContradiction
      intro hno
      have hall : ∀ s ∈ sl, s.full = true := fun s hs => by
        cases hsf : s.full with
        | true => rfl
        | false => exact (hno ⟨s, hs, hsf⟩).elim
      have : cnt sl = sl.length := List.countP_eq_length.2 hall
      omega
    obtain ⟨s, hs, hf⟩ := this
    obtain ⟨k, hk⟩ := List.getElem?_of_mem hs
    have hkl : k < sl.length := (List.getElem?_eq_some_iff.1 hk).1
    have hfree : isFree sl k = true := by
      have := ha s hs
      simp only [isFree, hk, hf, Bool.not_false, Bool.true_and, decide_eq_true_eq]
      omega
    have hm := freesTo_mem' hfree (m := n) (by omega)
    simp only [putN, List.head?_eq_none_iff] at h
    rw [h] at hm
    cases hm
  · intro hc
    simp only [putN, List.head?_eq_none_iff]
    apply List.eq_nil_iff_forall_not_mem.2
    intro k hk
    obtain ⟨h1, h2⟩ := freesTo_spec hk
    have hall : cnt sl = sl.length := by
      have : cnt sl ≤ sl.length := List.countP_le_length
      omega
    have hall := List.countP_eq_length.1 hall
    unfold isFree at h2
    split at h2
    · rename_i s hs
      have := hall s (List.mem_of_getElem? hs)
      simp [this] at h2
    · cases h2
theorem put_some_spec {sl : List Slot} {n k : Nat} (h : putN sl n = some k) : k < n ∧ ∃ s, sl[k]? = some s ∧ s.full = false := by
  have hm : k ∈ freesTo sl n := List.mem_of_head? h
  obtain ⟨h1, h2⟩ := freesTo_spec hm
  refine ⟨h1, ?_⟩
  unfold isFree at h2
  split at h2
  · rename_i s hs
    exact ⟨s, hs, by simp at h2; exact h2.1⟩
  · cases h2
end Go.Proofs.Ytafljpfephomoaa
