/- Trees: two trees; TreeOrder's plain facts. -/
import Derived.Test.YtadfmhjnmmmalaaL3
namespace Go.Proofs.Ytadfmhjnmmmalaa
open Go.RowKit Go.Maps
/-- Two trees, apart from one another. -/
def Two (B : Nat) (w : World) (t u room : Nat) (A C : List Lf) : Prop := ∃ S U, Tree w t S room A ∧ Tree w u U room C ∧ (∀ j, S j → ¬ U j) ∧ (∀ j, S j → B ≤ j) ∧ ∀ j, U j → B ≤ j
theorem Two.swap {B : Nat} {w : World} {t u room : Nat} {A C : List Lf} (h : Two B w t u room A C) : Two B w u t room C A := by
  obtain ⟨S, U, h1, h2, h3, h4, h5⟩ := h
  exact ⟨U, S, h2, h1, fun j hu hs => h3 j hs hu, h5, h4⟩
theorem Two.new {B : Nat} {w w' : World} {t u room : Nat} {A C : List Lf} (h : Two B w t u room A C) (hB : Below w.heap.size w w') : Two B w' t u room A C := by
  obtain ⟨S, U, h1, h2, h3, h4, h5⟩ := h
  exact ⟨S, U, h1.below hB, h2.below hB, h3, h4, h5⟩
theorem Two.mod {B : Nat} {M : Nat → Prop} {w w' : World} {t u room : Nat} {A C : List Lf} (h : Two B w t u room A C) (hM : Mod M w w') (hS : ∀ j, M j → j < B) : Two B w' t u room A C := by
  obtain ⟨S, U, h1, h2, h3, h4, h5⟩ := h
  exact ⟨S, U, h1.mod hM (fun j hs hm => by have := hS j hm; have := h4 j hs; omega), h2.mod hM (fun j hs hm => by have := hS j hm; have := h5 j hs; omega), h3, h4, h5⟩
theorem two_turn {B : Nat} {w w' : World} {t u room : Nat} {A C : List Lf} {S S' U : Nat → Prop} (h1 : Tree w' t S' room A) (h2 : Tree w u U room C) (h3 : ∀ j, S j → ¬ U j) (h4 : ∀ j, S j → B ≤ j) (h5 : ∀ j, U j → B ≤ j) (hT : Turn S S' w w') (hB : B ≤ w.heap.size) : Two B w' t u room A C ∧ Below B w w' := by
  obtain ⟨a, c⟩ := hT.below h4 hB
  refine ⟨⟨S', U, h1, h2.mod hT.1 (fun j hu hs => h3 j hs hu), fun j hs hu => ?_, c, h5⟩, a⟩
  rcases hT.2 j hs with h | h
  · exact h3 j h hu
  · have := h2.lt j hu
    omega
theorem two_put (B t u room : Nat) (A C : List Lf) (h : Int) (hh : In64 h) (b : Bx) (w : World) (hT : Two B w t u room A C) (hB : B ≤ w.heap.size) :
    Calls Try.prog 10 #[.pointer (some ⟨t, 0, none⟩), .int .i64 h, boxV b] w fun e w' => e = .returned (.int .i64 (putR room A h b).1) ∧ Two B w' t u room (putR room A h b).2 C ∧ Below B w w' := by
  obtain ⟨S, U, h1, h2, h3, h4, h5⟩ := hT
  refine (put10_any t S room A h hh b w h1).mono ?_
  rintro e w' ⟨rfl, S', h6, h7⟩
  exact ⟨rfl, two_turn h6 h2 h3 h4 h5 h7 hB⟩
theorem two_drop (B t u room : Nat) (A C : List Lf) (h : Int) (hh : In64 h) (w : World) (hT : Two B w t u room A C) (hB : B ≤ w.heap.size) :
    Calls Try.prog 16 #[.pointer (some ⟨t, 0, none⟩), .int .i64 h] w fun e w' => e = .returned (.int .i64 (if hasL A h then 0 else 81)) ∧ Two B w' t u room (delL A h) C ∧ Below B w w' := by
  obtain ⟨S, U, h1, h2, h3, h4, h5⟩ := hT
  refine (drop16_any t S room A h hh w h1).mono ?_
  rintro e w' ⟨rfl, S', h6, h7⟩
  exact ⟨rfl, two_turn h6 h2 h3 h4 h5 h7 hB⟩
theorem two_find (B t u room : Nat) (A C : List Lf) (q : Bx) (w : World) (hT : Two B w t u room A C) :
    Calls Try.prog 18 #[.pointer (some ⟨t, 0, none⟩), boxV q] w fun e w' => ∃ v, e = .returned v ∧ Rd w' v (foundL A q).length 1 (ints (foundL A q)) ∧ Below w.heap.size w w' := by
  obtain ⟨S, U, h1, h2, h3, h4, h5⟩ := hT
  refine (find18_any t S room A q w h1).mono ?_
  rintro e w' ⟨v, rfl, h6, h7⟩
  exact ⟨v, rfl, h6.1, h7⟩
theorem two_pairs (B t u room : Nat) (A C : List Lf) (w : World) (hT : Two B w t u room A C) :
    Calls Try.prog 12 #[.pointer (some ⟨t, 0, none⟩)] w fun e w' => ∃ v, e = .returned v ∧ Rd w' v (pairsL A).length 2 (pairCells (pairsL A)) ∧ Below w.heap.size w w' := by
  obtain ⟨S, U, h1, h2, h3, h4, h5⟩ := hT
  refine (pairs12_any t S room A w h1).mono ?_
  rintro e w' ⟨v, rfl, h6, h7⟩
  exact ⟨v, rfl, h6.1, h7⟩
theorem two_len (B t u room : Nat) (A C : List Lf) (w : World) (hT : Two B w t u room A C) :
    Calls Try.prog 19 #[.pointer (some ⟨t, 0, none⟩)] w fun e w' => e = .returned (.int .i64 (A.length : Int)) ∧ w' = w := by
  obtain ⟨S, U, h1, h2, h3, h4, h5⟩ := hT
  exact len19_any t S room A w h1
theorem ins_front {L : List Lf} {h : Int} (hl : ∀ x ∈ L, h < x.1) (b : Bx) : insL L h b = (h, b) :: L := by
  unfold insL
  rw [List.filter_eq_nil_iff.2 (fun x hx => by have := hl x hx; simp; omega), List.filter_eq_self.2 (fun x hx => by simpa using hl x hx)]
  rfl
theorem put_ok {room : Nat} {L : List Lf} {h : Int} {b : Bx} (h1 : 1 ≤ h) (hn : ∀ x ∈ L, x.1 ≠ h) (hr : L.length < room) : putR room L h (boxN b) = (0, insL L h (grownB (boxN b))) := by
  unfold putR
  rw [if_neg, if_neg (by omega)]
  rintro (h2 | h2 | h2)
  · omega
  · rw [boxN_may] at h2; cases h2
  · rw [has_false hn] at h2; cases h2
/-- The second tree after k rounds: the last k boxes by their own handles, the first k ones from 100 on. -/
def uL (bs : List Bx) (N k : Nat) : List Lf := laidL (N - k) ((wideTo bs N).drop (N - k)) ++ laidL 99 (wideTo bs k)
theorem u_zero (bs : List Bx) {N : Nat} (hN : N ≤ bs.length) : uL bs N 0 = [] := by
  unfold uL
  rw [Nat.sub_zero, List.drop_eq_nil_of_le (by rw [wide_len hN]; exact Nat.le_refl _)]
  rfl
theorem drop_laid {bs : List Bx} {N j : Nat} {x : Bx} (hx : bs[j]? = some x) (hj : j < N) (hN : N ≤ bs.length) (k : Nat) : laidL k ((wideTo bs N).drop j) = ((((k + 1 : Nat)) : Int), grownB (boxN x)) :: laidL (k + 1) ((wideTo bs N).drop (j + 1)) := by
  have hl : j < (wideTo bs N).length := by rw [wide_len hN]; exact hj
  rw [List.drop_eq_getElem_cons hl, laidL]
  have := wide_get hx hj
  rw [List.getElem?_eq_getElem hl] at this
  rw [Option.some.inj this]
theorem u_mem {bs : List Bx} {N k : Nat} (hN : N ≤ bs.length) (hk : k ≤ N) {x : Lf} (hx : x ∈ uL bs N k) : (((N - k : Nat) : Int) < x.1 ∧ x.1 ≤ (N : Int)) ∨ (99 < x.1 ∧ x.1 ≤ ((99 + k : Nat) : Int)) := by
  unfold uL at hx
  rcases List.mem_append.1 hx with hx | hx
  · have := laid_lt hx
    rw [List.length_drop, wide_len hN] at this
    exact .inl ⟨this.1, by omega⟩
  · have := laid_lt hx
    rw [wide_len (by omega)] at this
    exact .inr ⟨by omega, this.2⟩
theorem u_len {bs : List Bx} {N k : Nat} (hN : N ≤ bs.length) (hk : k ≤ N) : (uL bs N k).length = 2 * k := by
  unfold uL
  rw [List.length_append, laid_len, laid_len, List.length_drop, wide_len hN, wide_len (by omega)]
  omega
/-- The box at the other end, at the front. -/
theorem u_front {bs : List Bx} {N k : Nat} {x : Bx} (hN : N ≤ bs.length) (hN2 : N ≤ 50) (hk : k < N) :
    putR 128 (uL bs N k) (((N - k : Nat) : Int)) (boxN x) = (0, (((N - k : Nat) : Int), grownB (boxN x)) :: uL bs N k) := by
  have hlt : ∀ y ∈ uL bs N k, ((N - k : Nat) : Int) < y.1 := fun y hy => by have := u_mem hN (by omega) hy; omega
  rw [put_ok (by omega) (fun y hy => by have := hlt y hy; omega) (by rw [u_len hN (by omega)]; omega), ins_front hlt]
/-- Then this one, at the end. -/
theorem u_back {bs : List Bx} {N k : Nat} {x y : Bx} (hN : N ≤ bs.length) (hN2 : N ≤ 50) (hk : k < N) (hx : bs[N - 1 - k]? = some x) (hy : bs[k]? = some y) :
    putR 128 ((((N - k : Nat) : Int), grownB (boxN x)) :: uL bs N k) (100 + (k : Int)) (boxN y) = (0, uL bs N (k + 1)) := by
  have hlt : ∀ z ∈ (((N - k : Nat) : Int), grownB (boxN x)) :: uL bs N k, z.1 < 100 + (k : Int) := fun z hz => by
    rcases List.mem_cons.1 hz with rfl | hz
    · show ((N - k : Nat) : Int) < _
      omega
    · have := u_mem hN (by omega) hz
      omega
  rw [put_ok (by omega) (fun z hz => by have := hlt z hz; omega) (by rw [List.length_cons, u_len hN (by omega)]; omega), ins_end hlt]
  unfold uL
  rw [wide_succ hy, laid_snoc, wide_len (by omega), show N - (k + 1) = N - 1 - k by omega, drop_laid hx (by omega) hN, show N - 1 - k + 1 = N - k by omega, show ((99 + k + 1 : Nat) : Int) = 100 + (k : Int) by omega]
  simp
/-- After i of those from 100 on were dropped. -/
def vL (bs : List Bx) (N i : Nat) : List Lf := laidL 0 (wideTo bs N) ++ laidL (99 + i) ((wideTo bs N).drop i)
theorem v_zero (bs : List Bx) (N : Nat) : uL bs N N = vL bs N 0 := by unfold uL vL; simp
theorem v_all (bs : List Bx) {N : Nat} (hN : N ≤ bs.length) : vL bs N N = laidL 0 (wideTo bs N) := by
  unfold vL
  rw [List.drop_eq_nil_of_le (by rw [wide_len hN]; exact Nat.le_refl _)]
  simp [laidL]
theorem v_drop {bs : List Bx} {N i : Nat} {x : Bx} (hN : N ≤ bs.length) (hN2 : N ≤ 50) (hi : i < N) (hx : bs[i]? = some x) : hasL (vL bs N i) (100 + (i : Int)) = true ∧ delL (vL bs N i) (100 + (i : Int)) = vL bs N (i + 1) := by
  have e : ((99 + i + 1 : Nat) : Int) = 100 + (i : Int) := by omega
  have hA : ∀ z ∈ laidL 0 (wideTo bs N), z.1 < 100 + (i : Int) := fun z hz => by
    have := (laid_lt hz).2
    rw [wide_len hN] at this
    omega
  have hC : ∀ z ∈ laidL (99 + (i + 1)) ((wideTo bs N).drop (i + 1)), 100 + (i : Int) < z.1 := fun z hz => by
    have := (laid_lt hz).1
    omega
  have hv : vL bs N i = laidL 0 (wideTo bs N) ++ (100 + (i : Int), grownB (boxN x)) :: laidL (99 + (i + 1)) ((wideTo bs N).drop (i + 1)) := by
    unfold vL
    rw [drop_laid hx hi hN, e, Nat.add_assoc]
  have hr : Rises (vL bs N i) := by
    rw [hv]
    refine List.pairwise_append.2 ⟨laid_rises _ _, List.pairwise_cons.2 ⟨hC, laid_rises _ _⟩, fun a ha c hc => ?_⟩
    rcases List.mem_cons.1 hc with rfl | hc
    · exact hA a ha
    · exact Int.lt_trans (hA a ha) (hC c hc)
  constructor
  · unfold hasL
    rw [(boxOf_some hr (b := grownB (boxN x))).2 (by rw [hv]; simp)]
    rfl
  · rw [hv]
    unfold delL vL
    rw [List.filter_append, List.filter_cons_of_neg (by simp), List.filter_eq_self.2 (fun z hz => by have := hA z hz; simp; omega), List.filter_eq_self.2 (fun z hz => by have := hC z hz; simp; omega)]
end Go.Proofs.Ytadfmhjnmmmalaa
