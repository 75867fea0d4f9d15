/- Contacts: plain facts of the reference's four. -/
import Derived.Test.YtpbpdgknjbjlcaaCq
namespace Go.Proofs.Ytpbpdgknjbjlcaa
open Go.RowKit
theorem pigeon : ∀ (n : Nat) (C : List Nat), (∀ i, i < n → i ∈ C) → n ≤ C.length
  | 0, _, _ => Nat.zero_le _
  | n + 1, C, h => by
    have hn := h n (Nat.lt_succ_self n)
    have := pigeon n (C.erase n) (fun i hi => (List.mem_erase_of_ne (by omega)).2 (h i (by omega)))
    rw [List.length_erase_of_mem hn] at this
    have := List.length_pos_of_mem hn
    omega
theorem outside {n : Nat} {C : List Nat} (h : C.length < n) : ∃ i, i < n ∧ i ∉ C := by
  by_cases hh : ∀ i, i < n → i ∈ C
  · have := pigeon n C hh; omega
  · simpa using hh
def sumI (p : Nat → Bool) (f : Nat → Int) : Nat → Int
  | 0 => 0
  | n + 1 => sumI p f n + if p n then f n else 0
theorem sumI_congr {p q : Nat → Bool} (f : Nat → Int) : ∀ {n : Nat}, (∀ k, k < n → p k = q k) → sumI p f n = sumI q f n
  | 0, _ => rfl
  | n + 1, h => by
    unfold sumI
    rw [sumI_congr f (fun k hk => h k (by omega)), h n (by omega)]
theorem sumI_none (f : Nat → Int) : ∀ (n : Nat), sumI (fun _ => false) f n = 0
  | 0 => rfl
  | n + 1 => by unfold sumI; rw [sumI_none f n]; rfl
theorem sumI_insert {p : Nat → Bool} {f : Nat → Int} {m : Nat} (hp : p m = false) : ∀ {n : Nat}, m < n → sumI (fun k => p k || k == m) f n = sumI p f n + f m
  | 0, h => by omega
  | n + 1, h => by
    unfold sumI
    by_cases e : m = n
    · subst e
      rw [sumI_congr (q := p) f (fun k hk => by have : (k == m) = false := by simp; omega
                                                rw [this, Bool.or_false]), hp]
      simp
    · have e2 : (n == m) = false := by simp; omega
      rw [sumI_insert hp (by omega), e2, Bool.or_false]
      omega
theorem sumI_nonneg {p : Nat → Bool} {f : Nat → Int} (hf : ∀ k, 0 ≤ f k) : ∀ n, 0 ≤ sumI p f n
  | 0 => Int.le_refl _
  | n + 1 => by
    have := sumI_nonneg (p := p) hf n
    have := hf n
    unfold sumI
    split <;> omega
theorem sumI_mono {p : Nat → Bool} {f : Nat → Int} (hf : ∀ k, 0 ≤ f k) {a : Nat} : ∀ {n : Nat}, a ≤ n → sumI p f a ≤ sumI p f n
  | 0, h => by obtain rfl : a = 0 := by omega
               exact Int.le_refl _
  | n + 1, h => by
    by_cases e : a = n + 1
    · subst e; exact Int.le_refl _
    · have := sumI_mono (p := p) hf (a := a) (n := n) (by omega)
      have := hf n
      have e2 : sumI p f (n + 1) = sumI p f n + if p n then f n else 0 := rfl
      rw [e2]
      split <;> omega
theorem best_far {l : List Sp} {n : Nat} {C : List Nat} {m : Nat} (hnear : ∀ s ∈ l, Near 67108864 s.p) (hC : C.length < n) (h : IsBest (farV l C) n m) : C.contains m = false := by
  obtain ⟨i, hi, hiC⟩ := outside hC
  have h1 := h.2.1 i hi
  have h2 : 0 ≤ farV l C i := by
    unfold farV
    rw [if_neg (by rw [List.contains_iff_mem]; exact hiC)]
    exact (farS_range hnear i C).1
  cases hc : C.contains m with
  | false => rfl
  | true =>
    have h3 : farV l C m = -1 := by unfold farV; rw [hc]; rfl
    omega
theorem Chain.nodup {l : List Sp} {n : Nat} {C : List Nat} (hnear : ∀ s ∈ l, Near 67108864 s.p) (h : Chain l n C) : C.length ≤ n → C.Pairwise (fun a b => a ≠ b) := by
  induction h with
  | one m h => intro _; simp
  | snoc C m h1 h2 ih =>
    intro hl
    rw [List.length_append, List.length_singleton] at hl
    have hm := best_far hnear (by omega) h2
    rw [List.pairwise_append]
    refine ⟨ih (by omega), by simp, fun a ha b hb e => ?_⟩
    simp at hb
    subst hb
    subst e
    have : C.contains a = true := by rw [List.contains_iff_mem]; exact ha
    rw [this] at hm
    exact absurd hm (by decide)
theorem Chain.sum {l : List Sp} {n : Nat} {C : List Nat} (hnear : ∀ s ∈ l, Near 67108864 s.p) (h : Chain l n C) (i : Nat) : C.length ≤ n → sumI (fun k => C.contains k) (fun k => dist2 (spAt l i).p (spAt l k).p) n = farS l C i := by
  induction h with
  | one m h =>
    intro _
    have e : (fun k => [m].contains k) = (fun k => (fun _ => false) k || k == m) := by
      funext k
      by_cases e : k = m
      · subst e; simp
      · have e' := Ne.symm e
        simp [e]
    rw [e, sumI_insert rfl h.1, sumI_none]
    simp [farS]
  | snoc C m h1 h2 ih =>
    intro hl
    rw [List.length_append, List.length_singleton] at hl
    have hm := best_far hnear (by omega) h2
    have e : (fun k => (C ++ [m]).contains k) = (fun k => (fun k => C.contains k) k || k == m) := by
      funext k
      by_cases e : k = m <;> simp [e]
    rw [e, sumI_insert hm h2.1, ih (by omega), farS_snoc]
theorem inc_ext : ∀ {a b : List Nat}, a.Pairwise (fun x y => x < y) → b.Pairwise (fun x y => x < y) → (∀ x, x ∈ a ↔ x ∈ b) → a = b
  | [], [], _, _, _ => rfl
  | [], y :: b, _, _, h => by have := (h y).2 (List.mem_cons_self ..); cases this
  | x :: a, [], _, _, h => by have := (h x).1 (List.mem_cons_self ..); cases this
  | x :: a, y :: b, ha, hb, h => by
    obtain ⟨ha1, ha2⟩ := List.pairwise_cons.1 ha
    obtain ⟨hb1, hb2⟩ := List.pairwise_cons.1 hb
    have e : x = y := by
      rcases List.mem_cons.1 ((h x).1 (List.mem_cons_self ..)) with q | q
      · exact q
      · rcases List.mem_cons.1 ((h y).2 (List.mem_cons_self ..)) with r | r
        · exact r.symm
        · have := hb1 x q
          have := ha1 y r
          omega
    subst e
    congr 1
    refine inc_ext ha2 hb2 (fun z => ⟨fun hz => ?_, fun hz => ?_⟩)
    · rcases List.mem_cons.1 ((h z).1 (List.mem_cons_of_mem _ hz)) with q | q
      · have := ha1 z hz; omega
      · exact q
    · rcases List.mem_cons.1 ((h z).2 (List.mem_cons_of_mem _ hz)) with q | q
      · have := hb1 z hz; omega
      · exact q
theorem Chain.order {l : List Sp} {n : Nat} {C : List Nat} (hnear : ∀ s ∈ l, Near 67108864 s.p) (h : Chain l n C) (hl : C.length ≤ n) : (List.range n).filter (fun k => C.contains k) = sortN C := by
  refine inc_ext ?_ ?_ (fun x => ?_)
  · exact (List.pairwise_lt_range).filter _
  · have h1 := sortN_le C
    have h2 : (sortN C).Pairwise (fun a b => a ≠ b) := ((sortN_perm C).pairwise_iff (fun {a b} hab => Ne.symm hab)).2 (h.nodup hnear hl)
    exact (h1.and h2).imp (fun ⟨a, b⟩ => by omega)
  · rw [List.mem_filter, List.mem_range, (sortN_perm C).mem_iff, List.contains_iff_mem]
    exact ⟨fun q => q.2, fun q => ⟨h.lt x q, q⟩⟩
/-- How far the reference has picked. -/
def Pick (f : Nat → Int) (C : List Nat) (j : Nat) (at' far : Int) : Prop :=
  (far = -1 ∧ at' = -1 ∧ ∀ i, i < j → i ∈ C) ∨ ∃ m : Nat, at' = (m : Int) ∧ m < j ∧ m ∉ C ∧ far = f m ∧ (∀ i, i < j → i ∉ C → f i ≤ f m) ∧ ∀ i, i < m → i ∉ C → f i < f m
theorem pick_zero (f : Nat → Int) (C : List Nat) : Pick f C 0 (-1) (-1) := .inl ⟨rfl, rfl, fun i hi => by omega⟩
theorem pick_in {f : Nat → Int} {C : List Nat} {j : Nat} {a b : Int} (h : Pick f C j a b) (hj : j ∈ C) : Pick f C (j + 1) a b := by
  rcases h with ⟨h1, h2, h3⟩ | ⟨m, h1, h2, h3, h4, h5, h6⟩
  · refine .inl ⟨h1, h2, fun i hi => ?_⟩
    by_cases e : i = j
    · subst e; exact hj
    · exact h3 i (by omega)
  · refine .inr ⟨m, h1, by omega, h3, h4, fun i hi hiC => ?_, h6⟩
    by_cases e : i = j
    · subst e; exact absurd hj hiC
    · exact h5 i (by omega) hiC
theorem pick_yes {f : Nat → Int} {C : List Nat} {j : Nat} {a b : Int} (h : Pick f C j a b) (hj : j ∉ C) (hb : b < f j) : Pick f C (j + 1) (j : Int) (f j) := by
  rcases h with ⟨h1, h2, h3⟩ | ⟨m, h1, h2, h3, h4, h5, h6⟩
  · refine .inr ⟨j, rfl, by omega, hj, rfl, fun i hi hiC => ?_, fun i hi hiC => absurd (h3 i hi) hiC⟩
    by_cases e : i = j
    · subst e; exact Int.le_refl _
    · exact absurd (h3 i (by omega)) hiC
  · subst h4
    refine .inr ⟨j, rfl, by omega, hj, rfl, fun i hi hiC => ?_, fun i hi hiC => by have := h5 i hi hiC; omega⟩
    by_cases e : i = j
    · subst e; exact Int.le_refl _
    · have := h5 i (by omega) hiC; omega
theorem pick_no {f : Nat → Int} {C : List Nat} {j : Nat} {a b : Int} (h : Pick f C j a b) (hb : ¬ b < f j) (hf : 0 ≤ f j) : Pick f C (j + 1) a b := by
  rcases h with ⟨h1, h2, h3⟩ | ⟨m, h1, h2, h3, h4, h5, h6⟩
  · omega
  · refine .inr ⟨m, h1, by omega, h3, h4, fun i hi hiC => ?_, h6⟩
    by_cases e : i = j
    · subst e; omega
    · exact h5 i (by omega) hiC
theorem pick_best {l : List Sp} {C : List Nat} {n : Nat} {a b : Int} (hnear : ∀ s ∈ l, Near 67108864 s.p) (h : Pick (farS l C) C n a b) (hC : C.length < n) : ∃ m : Nat, a = (m : Int) ∧ m < n ∧ IsBest (farV l C) n m := by
  obtain ⟨i, hi, hiC⟩ := outside hC
  rcases h with ⟨h1, h2, h3⟩ | ⟨m, h1, h2, h3, h4, h5, h6⟩
  · exact absurd (h3 i hi) hiC
  · have hin : ∀ k, k ∉ C → farV l C k = farS l C k := fun k hk => by unfold farV; rw [if_neg (by rw [List.contains_iff_mem]; exact hk)]
    have hout : ∀ k, k ∈ C → farV l C k = -1 := fun k hk => by unfold farV; rw [if_pos (by rw [List.contains_iff_mem]; exact hk)]
    have hm0 := (farS_range hnear m C).1
    refine ⟨m, h1, h2, h2, fun k hk => ?_, fun k hk => ?_⟩
    · rw [hin m h3]
      by_cases e : k ∈ C
      · rw [hout k e]; omega
      · rw [hin k e]; exact h5 k hk e
    · rw [hin m h3]
      by_cases e : k ∈ C
      · rw [hout k e]; omega
      · rw [hin k e]; exact h6 k hk e
/-- What is chosen, place by place. -/
def chB (n : Nat) (C : List Nat) : List Bool := (List.range n).map (fun k => C.contains k)
theorem chB_len (n : Nat) (C : List Nat) : (chB n C).length = n := by simp [chB]
theorem chB_get {n : Nat} {C : List Nat} {k : Nat} (hk : k < n) : (chB n C)[k]?.getD false = C.contains k := by simp [chB, hk]
theorem chB_nil (n : Nat) : chB n [] = List.replicate n false := by
  unfold chB
  rw [List.eq_replicate_iff]
  refine ⟨by simp, fun b hb => ?_⟩
  obtain ⟨k, _, rfl⟩ := List.mem_map.1 hb
  rfl
theorem chB_set {n : Nat} {C : List Nat} {m : Nat} : (chB n C).set m true = chB n (C ++ [m]) := by
  refine List.ext_getElem? (fun k => ?_)
  unfold chB
  rw [List.getElem?_set]
  by_cases hk : k < n
  · by_cases e : m = k
    · subst e; simp [hk]
    · simp [hk, e, Ne.symm e]
  · simp [hk]
    omega
end Go.Proofs.Ytpbpdgknjbjlcaa
