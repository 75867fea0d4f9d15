/- Trees: plain facts of the laws: boxes laid by rising handles; boxes moved a little. -/
import Derived.Test.YtadfmhjnmmmalaaL1
namespace Go.Proofs.Ytadfmhjnmmmalaa
open Go.RowKit Go.Maps
/-- Boxes at the handles k+1, k+2, .. -/
def laidL : Nat → List Bx → List Lf
  | _, [] => []
  | k, b :: bs => (((k + 1 : Nat) : Int), b) :: laidL (k + 1) bs
theorem laid_len : ∀ (k : Nat) (bs : List Bx), (laidL k bs).length = bs.length
  | _, [] => rfl
  | k, b :: bs => by rw [laidL, List.length_cons, laid_len (k + 1) bs, List.length_cons]
theorem laid_in : ∀ (k : Nat) (bs : List Bx) (x : Lf), x ∈ laidL k bs → ∃ i, bs[i]? = some x.2 ∧ x.1 = ((k + i + 1 : Nat) : Int)
  | _, [], _, h => by cases h
  | k, b :: bs, x, h => by
    rw [laidL, List.mem_cons] at h
    rcases h with rfl | h
    · exact ⟨0, rfl, rfl⟩
    · obtain ⟨i, h1, h2⟩ := laid_in (k + 1) bs x h
      exact ⟨i + 1, h1, by rw [h2]; congr 1; omega⟩
theorem laid_snoc : ∀ (k : Nat) (bs : List Bx) (b : Bx), laidL k (bs ++ [b]) = laidL k bs ++ [(((k + bs.length + 1 : Nat) : Int), b)]
  | _, [], _ => rfl
  | k, c :: bs, b => by
    have e : k + 1 + bs.length + 1 = k + (c :: bs).length + 1 := by rw [List.length_cons]; omega
    rw [List.cons_append, laidL, laid_snoc (k + 1) bs b, laidL, List.cons_append, e]
theorem laid_get : ∀ (k : Nat) (bs : List Bx) (i : Nat) (b : Bx), bs[i]? = some b → (((k + i + 1 : Nat) : Int), b) ∈ laidL k bs
  | _, [], _, _, h => by cases h
  | k, c :: bs, 0, b, h => by
    simp only [List.getElem?_cons_zero, Option.some.injEq] at h
    subst h
    exact List.mem_cons_self ..
  | k, c :: bs, i + 1, b, h => by
    simp only [List.getElem?_cons_succ] at h
    have := laid_get (k + 1) bs i b h
    rw [show k + 1 + i + 1 = k + (i + 1) + 1 by omega] at this
    exact List.mem_cons_of_mem _ this
theorem laid_lt {k : Nat} {bs : List Bx} {x : Lf} (h : x ∈ laidL k bs) : (k : Int) < x.1 ∧ x.1 ≤ ((k + bs.length : Nat) : Int) := by
  obtain ⟨i, h1, h2⟩ := laid_in k bs x h
  have := (List.getElem?_eq_some_iff.1 h1).1
  omega
theorem laid_rises : ∀ (k : Nat) (bs : List Bx), Rises (laidL k bs)
  | _, [] => List.Pairwise.nil
  | k, b :: bs => List.pairwise_cons.2 ⟨fun x hx => by have := (laid_lt hx).1; simpa using this, laid_rises (k + 1) bs⟩
theorem ins_end {L : List Lf} {h : Int} (hl : ∀ x ∈ L, x.1 < h) (b : Bx) : insL L h b = L ++ [(h, b)] := by
  unfold insL
  rw [List.filter_eq_self.2 (fun x hx => by simpa using hl x hx), List.filter_eq_nil_iff.2 (fun x hx => by have := hl x hx; simp; omega)]
theorem has_false {L : List Lf} {h : Int} (hn : ∀ x ∈ L, x.1 ≠ h) : hasL L h = false := by
  unfold hasL
  rw [boxOf_none.2 hn]
  rfl
/-- The parts of a box made right. -/
theorem boxN_in (b : Bx) : ((-8388608 ≤ (boxN b).x0 ∧ (boxN b).x0 ≤ 8388607) ∧ (-8388608 ≤ (boxN b).y0 ∧ (boxN b).y0 ≤ 8388607) ∧ (-8388608 ≤ (boxN b).z0 ∧ (boxN b).z0 ≤ 8388607)) ∧
    ((boxN b).x0 ≤ (boxN b).x1 ∧ (boxN b).x1 ≤ (boxN b).x0 + 65535) ∧ ((boxN b).y0 ≤ (boxN b).y1 ∧ (boxN b).y1 ≤ (boxN b).y0 + 65535) ∧ ((boxN b).z0 ≤ (boxN b).z1 ∧ (boxN b).z1 ≤ (boxN b).z0 + 65535) := by
  have r1 := pickN_range (c := b.x0) (n := 16777216) (by omega)
  have r2 := pickN_range (c := b.y0) (n := 16777216) (by omega)
  have r3 := pickN_range (c := b.z0) (n := 16777216) (by omega)
  have r4 := pickN_range (c := b.x1) (n := 65536) (by omega)
  have r5 := pickN_range (c := b.y1) (n := 65536) (by omega)
  have r6 := pickN_range (c := b.z1) (n := 65536) (by omega)
  simp only [boxN]
  omega
theorem boxN_may (b : Bx) : mayB (boxN b) = true := by
  have := boxN_in b
  unfold mayB
  simp only [Bool.and_eq_true, decide_eq_true_eq]
  omega
theorem put_laid {room : Nat} {bs : List Bx} (hr : bs.length < room) (b : Bx) : putR room (laidL 0 bs) (((bs.length + 1 : Nat) : Int)) (boxN b) = (0, laidL 0 (bs ++ [grownB (boxN b)])) := by
  have hlt : ∀ x ∈ laidL 0 bs, x.1 < ((bs.length + 1 : Nat) : Int) := fun x hx => by have := (laid_lt hx).2; omega
  have h1 : ¬ ((((bs.length + 1 : Nat) : Int)) < 1 ∨ mayB (boxN b) = false ∨ hasL (laidL 0 bs) (((bs.length + 1 : Nat) : Int)) = true) := by
    rintro (h | h | h)
    · omega
    · rw [boxN_may] at h; cases h
    · rw [has_false (fun x hx => by have := hlt x hx; omega)] at h; cases h
  unfold putR
  rw [if_neg h1, if_neg (by rw [laid_len]; omega), ins_end hlt, laid_snoc, Nat.zero_add]
def movedB (b : Bx) (x y z : Int) : Bx := ⟨b.x0 + x, b.y0 + y, b.z0 + z, b.x1 + x, b.y1 + y, b.z1 + z⟩
theorem box_ext {a b : Bx} (h0 : a.x0 = b.x0) (h1 : a.y0 = b.y0) (h2 : a.z0 = b.z0) (h3 : a.x1 = b.x1) (h4 : a.y1 = b.y1) (h5 : a.z1 = b.z1) : a = b := by cases a; cases b; simp_all
theorem move_lazy {L : List Lf} (hL : Rises L) {h : Int} {b : Bx} (hm : (h, grownB (boxN b)) ∈ L) {x y z : Int} (hx : -64 ≤ x ∧ x ≤ 64) (hy : -64 ≤ y ∧ y ≤ 64) (hz : -64 ≤ z ∧ z ≤ 64) : moveR L h (movedB (boxN b) x y z) = (false, 0, L) := by
  have hi := boxN_in b
  have h1 : mayB (movedB (boxN b) x y z) = true := by
    unfold mayB movedB
    simp only [Bool.and_eq_true, decide_eq_true_eq]
    omega
  have h2 : joinB (movedB (boxN b) x y z) (grownB (boxN b)) = grownB (boxN b) := by
    refine box_ext ?_ ?_ ?_ ?_ ?_ ?_ <;> simp only [joinB, movedB, grownB, imin_eq, imax_eq] <;> omega
  unfold moveR
  rw [(boxOf_some hL).2 hm]
  simp only
  rw [if_neg (by rw [h1]; simp), if_pos h2]
end Go.Proofs.Ytadfmhjnmmmalaa
