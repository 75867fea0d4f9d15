/- Trees: the reference's boxes, its tree in memory, its place of a handle. -/
import Derived.Test.YtadfmhjnmmmalaaM2
namespace Go.Proofs.Ytadfmhjnmmmalaa
open Go.RowKit Go.Maps
set_option maxRecDepth 100000 in
theorem join40_any (a b : Bx) (w : World) : Calls Try.prog 40 #[boxV a, boxV b] w fun e w' => e = .returned (boxV (joinB a b)) ∧ Below w.heap.size w w' := by
  have m1 : min a.x0 b.x0 = (joinB a b).x0 := by rw [← imin_eq]; rfl
  have m2 : min a.y0 b.y0 = (joinB a b).y0 := by rw [← imin_eq]; rfl
  have m3 : min a.z0 b.z0 = (joinB a b).z0 := by rw [← imin_eq]; rfl
  have m4 : max a.x1 b.x1 = (joinB a b).x1 := by rw [← imax_eq]; rfl
  have m5 : max a.y1 b.y1 = (joinB a b).y1 := by rw [← imax_eq]; rfl
  have m6 : max a.z1 b.z1 = (joinB a b).z1 := by rw [← imax_eq]; rfl
  generalize joinB a b = c at *
  go_enter Try.func40, Try.ntmps40
  go_wp2
  exact bodyPost_ret (v := boxV c) (by simp [results, Try.f40, go_sem]) rfl ⟨rfl, (((Below.refl _ w).alloc (Nat.le_refl _) _).alloc (by simp) _).alloc (by simp; omega) _⟩
set_option maxRecDepth 100000 in
theorem meet42_any (a b : Bx) (w : World) : Calls Try.prog 42 #[boxV a, boxV b] w fun e w' => e = .returned (.bool (meetB a b)) ∧ Below w.heap.size w w' := by
  have hm : meetB a b = meetB a b := rfl
  conv at hm => rhs; unfold meetB
  rw [hm]
  clear hm
  have B1 : Below w.heap.size w ((w.alloc (.cells #[.int .i64 a.x0, .int .i64 a.y0, .int .i64 a.z0, .int .i64 a.x1, .int .i64 a.y1, .int .i64 a.z1] 34)).alloc (.cells #[.int .i64 b.x0, .int .i64 b.y0, .int .i64 b.z0, .int .i64 b.x1, .int .i64 b.y1, .int .i64 b.z1] 34)) := ((Below.refl _ w).alloc (Nat.le_refl _) _).alloc (by simp) _
  go_enter Try.func42, Try.ntmps42
  go_wp2
  all_goals (go_ret; exact ⟨by simp_all <;> (intros; omega), B1⟩)
set_option maxRecDepth 100000 in
theorem grown41_any (b : Bx) (h : mayB b = true) (w : World) : Calls Try.prog 41 #[boxV b, .int .i64 64] w fun e w' => e = .returned (boxV (grownB b)) ∧ Below w.heap.size w w' := by
  unfold mayB at h
  simp only [Bool.and_eq_true, decide_eq_true_eq] at h
  obtain ⟨⟨⟨⟨h1, h2⟩, h3⟩, h4, h5, h6⟩, h7, h8, h9⟩ := h
  go_enter Try.func41, Try.ntmps41
  go_wp2
  exact bodyPost_ret (v := boxV (grownB b)) (by simp [results, Try.f41, go_sem, grownB]) rfl ⟨rfl, ((Below.refl _ w).alloc (Nat.le_refl _) _).alloc (by simp) _⟩
def partB (a b : Int) : Bool := decide (a ≤ b) && decide (-1073741824 ≤ a) && decide (b ≤ 1073741824)
theorem part50_any (a b : Int) (w : World) : Calls Try.prog 50 #[.int .i64 a, .int .i64 b] w fun e w' => e = .returned (.bool (partB a b)) ∧ w' = w := by
  unfold partB
  go_enter Try.func50, Try.ntmps50
  go_wp2
  all_goals (go_ret; exact ⟨by simp_all <;> (intros; omega), rfl⟩)
theorem may_parts (b : Bx) : mayB b = (partB b.x0 b.x1 && partB b.y0 b.y1 && partB b.z0 b.z1) := by
  unfold mayB partB
  rw [Bool.eq_iff_iff]
  simp only [Bool.and_eq_true, decide_eq_true_eq]
  omega
set_option maxRecDepth 100000 in
theorem may39_any (b : Bx) (w : World) : Calls Try.prog 39 #[boxV b] w fun e w' => e = .returned (.bool (mayB b)) ∧ Below w.heap.size w w' := by
  obtain ⟨p1, h1⟩ : ∃ p, partB b.x0 b.x1 = p := ⟨_, rfl⟩
  obtain ⟨p2, h2⟩ : ∃ p, partB b.y0 b.y1 = p := ⟨_, rfl⟩
  obtain ⟨p3, h3⟩ : ∃ p, partB b.z0 b.z1 = p := ⟨_, rfl⟩
  have hm := may_parts b
  rw [h1, h2, h3] at hm
  rw [hm]
  have B1 : Below w.heap.size w (w.alloc (.cells #[.int .i64 b.x0, .int .i64 b.y0, .int .i64 b.z0, .int .i64 b.x1, .int .i64 b.y1, .int .i64 b.z1] 34)) := (Below.refl _ w).alloc (Nat.le_refl _) _
  have H1 := Lib.hid h1
  have H2 := Lib.hid h2
  have H3 := Lib.hid h3
  clear hm h1 h2 h3
  go_enter Try.func39, Try.ntmps39
  go_wp2_with fail
  refine (part50_any b.x0 b.x1 _).mono ?_
  rintro e w1 ⟨rfl, rfl⟩
  rw [H1.out]
  cases p1
  · go_wp2
    go_ret
    exact ⟨rfl, B1⟩
  · go_wp2_with fail
    refine (part50_any b.y0 b.y1 _).mono ?_
    rintro e w1 ⟨rfl, rfl⟩
    rw [H2.out]
    cases p2
    · go_wp2
      go_ret
      exact ⟨rfl, B1⟩
    · go_wp2_with fail
      refine (part50_any b.z0 b.z1 _).mono ?_
      rintro e w1 ⟨rfl, rfl⟩
      rw [H3.out]
      go_wp2
      go_ret
      exact ⟨by cases p3 <;> rfl, B1⟩
def encLf (x : Lf) : List Value := .int .i64 x.1 :: x.2.cells
def lfCells (L : List Lf) : List Value := L.flatMap encLf
theorem lf_len (L : List Lf) : (lfCells L).length = L.length * 7 := flat_len (f := encLf) (fun _ => rfl) L
theorem lf_get {L : List Lf} {j : Nat} {x : Lf} (c : Nat) (h : L[j]? = some x) (hc : c < 7) : (lfCells L)[j * 7 + c]? = (encLf x)[c]? := flat_get (f := encLf) (fun _ => rfl) _ _ _ _ h hc
theorem lf_append (a b : List Lf) : lfCells (a ++ b) = lfCells a ++ lfCells b := by simp [lfCells]
/-- The reference's tree. -/
def Ref (w : World) (q : Nat) (v : Value) (room : Nat) (L : List Lf) : Prop := Blk w q 67 [v, .int .i64 (room : Int)] ∧ w.ownsRow 0 88 7 v L.length (lfCells L)
def RefS (q : Nat) (v : Value) (j : Nat) : Prop := j = q ∨ v.ownBlock = some j
theorem Ref.lt {w : World} {q : Nat} {v : Value} {room : Nat} {L : List Lf} (h : Ref w q v room L) : ∀ j, RefS q v j → j < w.heap.size := by
  rintro j (rfl | h1)
  · exact h.1.lt
  · exact own_lt h.2 h1
theorem Ref.mod {M : Nat → Prop} {w w' : World} {q : Nat} {v : Value} {room : Nat} {L : List Lf} (h : Ref w q v room L) (hM : Mod M w w') (hS : ∀ j, RefS q v j → ¬ M j) : Ref w' q v room L :=
  ⟨h.1.mod hM (hS q (.inl rfl)), own_keep h.2 (fun g _ e _ => hM.block g (own_lt h.2 e) (hS g (.inr e)))⟩
theorem Ref.below {w w' : World} {q : Nat} {v : Value} {room : Nat} {L : List Lf} (h : Ref w q v room L) (hB : Below w.heap.size w w') : Ref w' q v room L :=
  ⟨h.1.below hB h.1.lt, own_new h.2 hB⟩
theorem Ref.shape {w : World} {q : Nat} {v : Value} {room : Nat} {L : List Lf} (h : Ref w q v room L) : ∃ a c, v = .slice a L.length c ∧ L.length ≤ c ∧ c ≤ 9223372036854775807 := (Rd.of_own h.2).shape
theorem own_leaf {w : World} {B g n cap : Nat} {L : List Lf} (h : w.ownsRow B 88 7 (.slice (some ⟨g, 0, none⟩) n cap) n (lfCells L)) {j : Nat} {x : Lf} (hj : j < n) (hx : L[j]? = some x) :
    w.cell? ⟨g, j * 7, none⟩ = some (.int .i64 x.1) ∧ w.cell? ⟨g, j * 7 + 1, none⟩ = some (.int .i64 x.2.x0) ∧ w.cell? ⟨g, j * 7 + 1 + 1, none⟩ = some (.int .i64 x.2.y0) ∧ w.cell? ⟨g, j * 7 + 1 + 2, none⟩ = some (.int .i64 x.2.z0) ∧ w.cell? ⟨g, j * 7 + 1 + 3, none⟩ = some (.int .i64 x.2.x1) ∧ w.cell? ⟨g, j * 7 + 1 + 4, none⟩ = some (.int .i64 x.2.y1) ∧ w.cell? ⟨g, j * 7 + 1 + 5, none⟩ = some (.int .i64 x.2.z1) := by
  have f : ∀ c, c < 7 → w.cell? ⟨g, j * 7 + c, none⟩ = (encLf x)[c]? := fun c hc => by
    have := (Rd.of_own h).at (i := j * 7 + c) (by omega)
    rw [Nat.zero_add] at this
    rw [this, lf_get c hx hc]
  exact ⟨f 0 (by decide), f 1 (by decide), f 2 (by decide), f 3 (by decide), f 4 (by decide), f 5 (by decide), f 6 (by decide)⟩
set_option maxRecDepth 100000 in
theorem place38_any (q : Nat) (v : Value) (room : Nat) (L : List Lf) (h : Int) (w : World) (hR : Ref w q v room L) :
    Calls Try.prog 38 #[.pointer (some ⟨q, 0, none⟩), .int .i64 h] w fun e w' => w' = w ∧ ((∃ (i : Nat) (x : Lf), e = .returned (.int .i64 (i : Int)) ∧ L[i]? = some x ∧ x.1 = h) ∨ (e = .returned (.int .i64 (-1)) ∧ ∀ x ∈ L, x.1 ≠ h)) := by
  obtain ⟨a, c, rfl, h1, h2⟩ := hR.shape
  obtain ⟨N, hN⟩ : ∃ N, N = L.length := ⟨_, rfl⟩
  have hown := hR.2
  have c0 := hR.1.cell 0
  simp only [List.getElem?_cons_zero] at c0
  rw [← hN] at hown h1 c0
  have HN := Lib.hid hN
  have Hown := Lib.hid hown
  clear hN hown hR
  go_enter Try.func38, Try.ntmps38
  go_wp2_with fail
  go_loopw [5] (fun i wr => ∃ k : Nat, k ≤ N ∧ i = .int .i64 (k : Int) ∧ Hid (∀ x ∈ L.take k, x.1 ≠ h) ∧ wr = w) (fun i _ => N - (intOf i).toNat)
  case atStart => exact ⟨0, Nat.zero_le _, rfl, Lib.hid (fun x hx => by simp at hx), rfl⟩
  case round =>
    obtain ⟨k, hk, rfl, HT, rfl⟩ := hrel
    by_cases hkN : k < N
    · obtain ⟨x, hx⟩ : ∃ x, L[k]? = some x := ⟨_, List.getElem?_eq_getElem (by rw [← HN.out]; exact hkN)⟩
      obtain ⟨g, gc, e0⟩ := own_addr Hown.out (by omega)
      obtain ⟨rfl, -⟩ : a = some ⟨g, 0, none⟩ ∧ True := by cases e0; exact ⟨rfl, trivial⟩
      obtain ⟨q0, -⟩ := own_leaf Hown.out hkN hx
      have hkI : (k : Int) < (N : Int) := by omega
      have Hx := Lib.hid hx
      clear hx e0
      by_cases hh : x.1 = h
      · have eh : (x.1 == h) = true := by simp [hh]
        have Hh := Lib.hid hh
        clear hh
        go_wp2
        go_ret
        exact ⟨rfl, .inl ⟨k, x, rfl, Hx.out, Hh.out⟩⟩
      · have eh : (x.1 == h) = false := by simp [hh]
        have HT2 : Hid (∀ y ∈ L.take (k + 1), y.1 ≠ h) := Lib.hid fun y hy => by
          rw [List.take_add_one, Hx.out] at hy
          rcases List.mem_append.1 hy with h3 | h3
          · exact HT.out y h3
          · simp only [Option.toList_some, List.mem_singleton] at h3
            rw [h3]
            exact hh
        clear hh
        go_wp2
        go_roundw
        case rel => exact ⟨k + 1, by omega, by go_num, HT2, trivial⟩
        case measure => simp [intOf]; omega
    · obtain rfl : k = N := by omega
      go_wp2
      go_ret
      exact ⟨rfl, .inr ⟨rfl, fun x hx => HT.out x (by rw [HN.out, List.take_length]; exact hx)⟩⟩
end Go.Proofs.Ytadfmhjnmmmalaa
