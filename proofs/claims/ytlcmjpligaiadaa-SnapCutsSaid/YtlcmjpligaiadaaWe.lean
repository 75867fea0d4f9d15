/- PairsOrder: the plain facts. -/
import Derived.Test.YtlcmjpligaiadaaWd
import Derived.Test.YtlcmjpligaiadaaW8
namespace Go.Proofs.Ytlcmjpligaiadaa
open Go.RowKit
theorem foldl_put (room : Nat) (ps l : List Pr) (hr : Rising l) (hf : l.length + ps.length ≤ room) :
    Rising (ps.foldl (putS room) l) ∧ (ps.foldl (putS room) l).length ≤ l.length + ps.length ∧ ∀ q, q ∈ ps.foldl (putS room) l ↔ q ∈ l ∨ (q ∈ ps ∧ q.1 < q.2) := by
  induction ps generalizing l with
  | nil => exact ⟨hr, by simp, by simp⟩
  | cons p ps ih =>
    rw [List.foldl_cons]
    simp only [List.length_cons] at hf ⊢
    have key : Rising (putS room l p) ∧ (putS room l p).length ≤ l.length + 1 ∧ ∀ q, q ∈ putS room l p ↔ q ∈ l ∨ (q = p ∧ q.1 < q.2) := by
      unfold putS
      by_cases hc : canPut room l p = true
      · rw [if_pos hc]
        simp only [canPut, hasP, Bool.and_eq_true, decide_eq_true_eq, Bool.not_eq_true', decide_eq_false_iff_not] at hc
        refine ⟨putP_rising hr hc.1.2, by rw [putP_len]; omega, fun q => ?_⟩
        rw [putP_mem]
        constructor
        · rintro (rfl | h)
          · exact .inr ⟨rfl, hc.1.1⟩
          · exact .inl h
        · rintro (h | ⟨rfl, _⟩)
          · exact .inr h
          · exact .inl rfl
      · rw [if_neg hc]
        refine ⟨hr, by omega, fun q => ?_⟩
        constructor
        · exact .inl
        · rintro (h | ⟨rfl, h2⟩)
          · exact h
          · simp only [canPut, hasP, Bool.and_eq_true, decide_eq_true_eq, Bool.not_eq_true', decide_eq_false_iff_not, not_and] at hc
            apply Classical.byContradiction
            intro hn
            exact hc ⟨h2, hn⟩ (by omega)
    obtain ⟨k1, k2, k3⟩ := key
    obtain ⟨i1, i2, i3⟩ := ih (putS room l p) k1 (by omega)
    refine ⟨i1, by omega, fun q => ?_⟩
    rw [i3, k3, List.mem_cons]
    constructor
    · rintro ((h | ⟨rfl, h⟩) | ⟨h1, h2⟩)
      · exact .inl h
      · exact .inr ⟨.inl rfl, h⟩
      · exact .inr ⟨.inr h1, h2⟩
    · rintro (h | ⟨rfl | h1, h2⟩)
      · exact .inl (.inl h)
      · exact .inl (.inr ⟨rfl, h2⟩)
      · exact .inr ⟨h1, h2⟩
theorem putAll_rising (room : Nat) (ps : List Pr) (hf : ps.length ≤ room) : Rising (putAll room ps) := (foldl_put room ps [] .nil (by simpa using hf)).1
theorem putAll_mem (room : Nat) (ps : List Pr) (hf : ps.length ≤ room) (q : Pr) : q ∈ putAll room ps ↔ q ∈ ps ∧ q.1 < q.2 := by
  have := (foldl_put room ps [] .nil (by simpa using hf)).2.2 q
  simpa [putAll] using this
theorem putAll_rev (room : Nat) (ps : List Pr) (hf : ps.length ≤ room) : putAll room ps.reverse = putAll room ps :=
  rising_ext (putAll_rising room _ (by simpa using hf)) (putAll_rising room _ hf) fun q => by
    rw [putAll_mem _ _ (by simpa using hf), putAll_mem _ _ hf, List.mem_reverse]
theorem beyP_self (l : List Pr) : beyP l l = [] := by
  unfold beyP hasP
  rw [List.filter_eq_nil_iff]
  intro p hp
  simp [hp]
theorem beyP_mem {l m : List Pr} {p : Pr} (h : p ∈ beyP l m) : hasP l p = true ∧ hasP m p = false := by
  unfold beyP at h
  rw [List.mem_filter] at h
  exact ⟨by simp [hasP, h.1], by simpa using h.2⟩
/-- How many of one list the other has too. -/
def bothN (l m : List Pr) : Nat := (l.filter fun p => hasP m p).length
theorem bothN_snoc (l m : List Pr) (p : Pr) : bothN (l ++ [p]) m = if hasP m p = true then bothN l m + 1 else bothN l m := by
  unfold bothN
  rw [List.filter_append]
  cases h : hasP m p <;> simp [h]
theorem bothN_le (l m : List Pr) : bothN l m ≤ l.length := List.length_filter_le _ _
theorem bey_both (l m : List Pr) : (beyP l m).length + bothN l m = l.length := by
  unfold beyP bothN
  induction l with
  | nil => rfl
  | cons p l ih => cases h : hasP m p <;> simp [h] <;> omega
theorem both_comm {l m : List Pr} (hl : Rising l) (hm : Rising m) : bothN l m = bothN m l := by
  unfold bothN
  rw [rising_ext (hl.filter _) (hm.filter (fun p => hasP l p)) fun q => ?_]
  simp only [List.mem_filter, hasP, decide_eq_true_eq]
  exact ⟨fun h => ⟨h.2, h.1⟩, fun h => ⟨h.2, h.1⟩⟩
theorem bey_comm {l m : List Pr} (hl : Rising l) (hm : Rising m) : (beyP m l).length + bothN l m = m.length := by
  rw [both_comm hl hm]; exact bey_both m l
/-- Three sets apart from each other. -/
structure Three (H : Nat) (W : World) (s t u : Nat) (va vb vc : Value) (a b c : List Pr) : Prop where
  sa : SetAt W s H va 4096 a
  sb : SetAt W t H vb 4096 b
  sc : SetAt W u H vc 4096 c
  ab : ∀ j, Foot s va j → ¬ Foot t vb j
  ac : ∀ j, Foot s va j → ¬ Foot u vc j
  bc : ∀ j, Foot t vb j → ¬ Foot u vc j
  ha : ∀ j, Foot s va j → H ≤ j
  hb : ∀ j, Foot t vb j → H ≤ j
  hc : ∀ j, Foot u vc j → H ≤ j
theorem Three.swapB {H : Nat} {W : World} {s t u : Nat} {va vb vc : Value} {a b c : List Pr} (h : Three H W s t u va vb vc a b c) : Three H W t s u vb va vc b a c :=
  ⟨h.sb, h.sa, h.sc, fun j h1 h2 => h.ab j h2 h1, h.bc, h.ac, h.hb, h.ha, h.hc⟩
theorem Three.swapC {H : Nat} {W : World} {s t u : Nat} {va vb vc : Value} {a b c : List Pr} (h : Three H W s t u va vb vc a b c) : Three H W u t s vc vb va c b a :=
  ⟨h.sc, h.sb, h.sa, fun j h1 h2 => h.bc j h2 h1, fun j h1 h2 => h.ac j h2 h1, fun j h1 h2 => h.ab j h2 h1, h.hc, h.hb, h.ha⟩
theorem Three.new {H : Nat} {W W' : World} {s t u : Nat} {va vb vc : Value} {a b c : List Pr} (h : Three H W s t u va vb vc a b c) (hB : Below W.heap.size W W') : Three H W' s t u va vb vc a b c :=
  ⟨h.sa.new hB, h.sb.new hB, h.sc.new hB, h.ab, h.ac, h.bc, h.ha, h.hb, h.hc⟩
theorem Three.put {H : Nat} {W W' : World} {s t u : Nat} {va vb vc va' : Value} {a b c a' : List Pr} (h : Three H W s t u va vb vc a b c) (hH : H ≤ W.heap.size)
    (h1 : SetAt W' s H va' 4096 a') (hm : Mod (Foot s va) W W') (hf : ∀ j, Foot s va' j → Foot s va j ∨ W.heap.size ≤ j) : Three H W' s t u va' vb vc a' b c :=
  ⟨h1, h.sb.mod hm (fun j hj hk => h.ab j hk hj), h.sc.mod hm (fun j hj hk => h.ac j hk hj),
    fun j hj hk => (hf j hj).elim (fun e => h.ab j e hk) (fun e => by have := h.sb.lt hk; omega),
    fun j hj hk => (hf j hj).elim (fun e => h.ac j e hk) (fun e => by have := h.sc.lt hk; omega),
    h.bc, fun j hj => (hf j hj).elim (h.ha j) (fun e => by omega), h.hb, h.hc⟩
theorem foot_nil {s j : Nat} (h : Foot s (.slice none 0 0) j) : j = s := h.elim id (fun e => by simp [Value.ownBlock] at e)
theorem Three.start {H : Nat} {W : World} {s t u : Nat} (h1 : SetAt W s H (.slice none 0 0) 4096 []) (h2 : SetAt W t H (.slice none 0 0) 4096 []) (h3 : SetAt W u H (.slice none 0 0) 4096 []) (a : H ≤ s) (b : s < t) (c : t < u) :
    Three H W s t u (.slice none 0 0) (.slice none 0 0) (.slice none 0 0) [] [] [] :=
  ⟨h1, h2, h3, fun j x y => by have := foot_nil x; have := foot_nil y; omega, fun j x y => by have := foot_nil x; have := foot_nil y; omega, fun j x y => by have := foot_nil x; have := foot_nil y; omega,
    fun j x => by have := foot_nil x; omega, fun j x => by have := foot_nil x; omega, fun j x => by have := foot_nil x; omega⟩
theorem rev_at {L : List Pr} {m k : Nat} (h : L.length = m) (hk : k < m) {p : Pr} (hp : L[m - 1 - k]? = some p) : L.reverse[k]? = some p := by
  subst h
  rw [List.getElem?_reverse hk]
  exact hp
theorem take_at {L : List Pr} {k : Nat} {p : Pr} (h : L[k]? = some p) : L.take (k + 1) = L.take k ++ [p] := by
  obtain ⟨hk, rfl⟩ := List.getElem?_eq_some_iff.1 h
  exact List.take_succ_eq_append_getElem hk
end Go.Proofs.Ytlcmjpligaiadaa
