/- Trees: a tree and the reference's, apart from one another. -/
import Derived.Test.YtadfmhjnmmmalaaR7
namespace Go.Proofs.Ytadfmhjnmmmalaa
open Go.RowKit Go.Maps
def Apt2 (ty : TypeId) : Prop := ty = 56 ∨ ty = 34
def Kept2 (w w' : World) : Prop := ∀ c ty vs, Apt2 ty → Blk w c ty vs → Blk w' c ty vs
theorem Kept2.of_below {w w' : World} (h : Below w.heap.size w w') : Kept2 w w' := fun _ _ _ _ hb => hb.below h hb.lt
theorem Kept2.trans {a b c : World} (h : Kept2 a b) (k : Kept2 b c) : Kept2 a c := fun x ty vs ha hb => k x ty vs ha (h x ty vs ha hb)
theorem Tree.no_apt2 {w : World} {t : Nat} {S : Nat → Prop} {room : Nat} {L : List Lf} (h : Tree w t S room L) {b : Nat} {ty : TypeId} {vs : List Value} (ha : Apt2 ty) (hb : Blk w b ty vs) : ¬ S b := by
  obtain ⟨vn, vf, mb, ns, fr, root, D, o, rfl, hR, _⟩ := h
  rintro (rfl | h1 | h1 | rfl)
  · exact blk_type_ne hb hR.1 (by rcases ha with rfl | rfl <;> decide) rfl
  · exact own_ne hR.2.1 hb (by rcases ha with rfl | rfl <;> decide) h1
  · exact own_ne hR.2.2.1 hb (by rcases ha with rfl | rfl <;> decide) h1
  · obtain ⟨es, clock, hh, _⟩ := hR.2.2.2
    unfold Blk at hb
    rw [hh] at hb
    cases hb
theorem Ref.no_apt2 {w : World} {q : Nat} {v : Value} {room : Nat} {L : List Lf} (h : Ref w q v room L) {b : Nat} {ty : TypeId} {vs : List Value} (ha : Apt2 ty) (hb : Blk w b ty vs) : ¬ RefS q v b := by
  rintro (rfl | h1)
  · exact blk_type_ne hb h.1 (by rcases ha with rfl | rfl <;> decide) rfl
  · exact own_ne h.2 hb (by rcases ha with rfl | rfl <;> decide) h1
/-- The two, apart from one another. -/
def Duo (B : Nat) (w : World) (t q room : Nat) (A L : List Lf) : Prop := ∃ S v, Tree w t S room A ∧ Ref w q v room L ∧ (∀ j, S j → ¬ RefS q v j) ∧ (∀ j, S j → B ≤ j) ∧ ∀ j, RefS q v j → B ≤ j
theorem Tree.few {w : World} {t : Nat} {S : Nat → Prop} {room : Nat} {L : List Lf} (h : Tree w t S room L) : L.length ≤ room ∧ room ≤ 1024 := by
  obtain ⟨vn, vf, mb, ns, fr, root, D, o, rfl, hR, hS, hT, hp, hL, hns, hl, hr, h64⟩ := h
  exact ⟨hl, hr⟩
theorem Duo.new {B : Nat} {w w' : World} {t q room : Nat} {A L : List Lf} (h : Duo B w t q room A L) (hB : Below w.heap.size w w') : Duo B w' t q room A L := by
  obtain ⟨S, v, h1, h2, h3, h4, h5⟩ := h
  exact ⟨S, v, h1.below hB, h2.below hB, h3, h4, h5⟩
theorem Duo.tree {B : Nat} {w : World} {t q room : Nat} {A L : List Lf} (h : Duo B w t q room A L) : TreeN B w t room A := by
  obtain ⟨S, v, h1, h2, h3, h4, h5⟩ := h
  exact ⟨S, h1, h4⟩
theorem Duo.facts {B : Nat} {w : World} {t q room : Nat} {A L : List Lf} (h : Duo B w t q room A L) : Rises A ∧ A.length ≤ 1024 := by
  obtain ⟨S, v, h1, h2, h3, h4, h5⟩ := h
  have := h1.few
  exact ⟨h1.rises.1, by omega⟩
/-- The first turns. -/
theorem duo_t {B : Nat} {w w' : World} {t q room : Nat} {A A' L : List Lf} {S S' : Nat → Prop} {v : Value} (h1 : Tree w t S room A) (h2 : Ref w q v room L) (h3 : ∀ j, S j → ¬ RefS q v j) (h4 : ∀ j, S j → B ≤ j) (h5 : ∀ j, RefS q v j → B ≤ j) (h6 : Tree w' t S' room A') (hT : Turn S S' w w') (hB : B ≤ w.heap.size) :
    Duo B w' t q room A' L ∧ Below B w w' ∧ Kept2 w w' := by
  obtain ⟨a, c⟩ := hT.below h4 hB
  refine ⟨⟨S', v, h6, h2.mod hT.1 (fun j hj hs => h3 j hs hj), fun j hs hj => ?_, c, h5⟩, a, fun _ _ _ ha hb => hb.mod hT.1 (h1.no_apt2 ha hb)⟩
  rcases hT.2 j hs with h | h
  · exact h3 j h hj
  · have := h2.lt j hj
    omega
/-- The second turns. -/
theorem duo_r {B : Nat} {w w' : World} {t q room : Nat} {A L L' : List Lf} {S : Nat → Prop} {v v' : Value} (h1 : Tree w t S room A) (h2 : Ref w q v room L) (h3 : ∀ j, S j → ¬ RefS q v j) (h4 : ∀ j, S j → B ≤ j) (h5 : ∀ j, RefS q v j → B ≤ j) (h6 : Ref w' q v' room L') (hT : Turn (RefS q v) (RefS q v') w w') (hB : B ≤ w.heap.size) :
    Duo B w' t q room A L' ∧ Below B w w' ∧ Kept2 w w' := by
  obtain ⟨a, c⟩ := hT.below h5 hB
  refine ⟨⟨S, v', h1.mod hT.1 (fun j hs hj => h3 j hs hj), h6, fun j hs hj => ?_, h4, c⟩, a, fun _ _ _ ha hb => hb.mod hT.1 (h2.no_apt2 ha hb)⟩
  rcases hT.2 j hj with h | h
  · exact h3 j hs h
  · have := h1.lt j hs
    omega
section
variable (B t q room : Nat) (A L : List Lf) (h : Int) (w : World)
theorem duo_put (hh : In64 h) (b : Bx) (hD : Duo B w t q room A L) (hB : B ≤ w.heap.size) :
    Calls Try.prog 10 #[.pointer (some ⟨t, 0, none⟩), .int .i64 h, boxV b] w fun e w' => e = .returned (.int .i64 (putR room A h b).1) ∧ Duo B w' t q room (putR room A h b).2 L ∧ Below B w w' ∧ Kept2 w w' := by
  obtain ⟨S, v, h1, h2, h3, h4, h5⟩ := hD
  refine (put10_any t S room A h hh b w h1).mono ?_
  rintro e w' ⟨rfl, S', h6, h7⟩
  exact ⟨rfl, duo_t h1 h2 h3 h4 h5 h6 h7 hB⟩
theorem duo_move (hh : In64 h) (b : Bx) (hD : Duo B w t q room A L) (hB : B ≤ w.heap.size) :
    Calls Try.prog 14 #[.pointer (some ⟨t, 0, none⟩), .int .i64 h, boxV b] w fun e w' => e = .returned (.tuple #[.bool (moveR A h b).1, .int .i64 (moveR A h b).2.1]) ∧ Duo B w' t q room (moveR A h b).2.2 L ∧ Below B w w' ∧ Kept2 w w' := by
  obtain ⟨S, v, h1, h2, h3, h4, h5⟩ := hD
  refine (move14_any t S room A h hh b w h1).mono ?_
  rintro e w' ⟨rfl, S', h6, h7⟩
  exact ⟨rfl, duo_t h1 h2 h3 h4 h5 h6 h7 hB⟩
theorem duo_drop (hh : In64 h) (hD : Duo B w t q room A L) (hB : B ≤ w.heap.size) :
    Calls Try.prog 16 #[.pointer (some ⟨t, 0, none⟩), .int .i64 h] w fun e w' => e = .returned (.int .i64 (if hasL A h then 0 else 81)) ∧ Duo B w' t q room (delL A h) L ∧ Below B w w' ∧ Kept2 w w' := by
  obtain ⟨S, v, h1, h2, h3, h4, h5⟩ := hD
  refine (drop16_any t S room A h hh w h1).mono ?_
  rintro e w' ⟨rfl, S', h6, h7⟩
  exact ⟨rfl, duo_t h1 h2 h3 h4 h5 h6 h7 hB⟩
theorem duo_rput (hL : Rises L) (hn : L.length ≤ 1024) (b : Bx) (hD : Duo B w t q room A L) (hB : B ≤ w.heap.size) :
    Calls Try.prog 27 #[.pointer (some ⟨q, 0, none⟩), .int .i64 h, boxV b] w fun e w' => e = .returned (.int .i64 (putR room L h b).1) ∧ Duo B w' t q room A (putR room L h b).2 ∧ Below B w w' ∧ Kept2 w w' := by
  obtain ⟨S, v, h1, h2, h3, h4, h5⟩ := hD
  refine (put27_any q v room L hL h b w h2 hn).mono ?_
  rintro e w' ⟨rfl, v', h6, h7⟩
  exact ⟨rfl, duo_r h1 h2 h3 h4 h5 h6 h7 hB⟩
theorem duo_rmove (hL : Rises L) (b : Bx) (hD : Duo B w t q room A L) (hB : B ≤ w.heap.size) :
    Calls Try.prog 24 #[.pointer (some ⟨q, 0, none⟩), .int .i64 h, boxV b] w fun e w' => e = .returned (.tuple #[.bool (moveR L h b).1, .int .i64 (moveR L h b).2.1]) ∧ Duo B w' t q room A (moveR L h b).2.2 ∧ Below B w w' ∧ Kept2 w w' := by
  obtain ⟨S, v, h1, h2, h3, h4, h5⟩ := hD
  refine (move24_any q v room L hL h b w h2).mono ?_
  rintro e w' ⟨rfl, v', h6, h7⟩
  exact ⟨rfl, duo_r h1 h2 h3 h4 h5 h6 h7 hB⟩
theorem duo_rdrop (hL : Rises L) (hn : L.length ≤ 1024) (hD : Duo B w t q room A L) (hB : B ≤ w.heap.size) :
    Calls Try.prog 25 #[.pointer (some ⟨q, 0, none⟩), .int .i64 h] w fun e w' => e = .returned (.int .i64 (if hasL L h then 0 else 81)) ∧ Duo B w' t q room A (delL L h) ∧ Below B w w' ∧ Kept2 w w' := by
  obtain ⟨S, v, h1, h2, h3, h4, h5⟩ := hD
  refine (drop25_any q v room L hL h w h2 hn).mono ?_
  rintro e w' ⟨rfl, v', h6, h7⟩
  exact ⟨rfl, duo_r h1 h2 h3 h4 h5 h6 h7 hB⟩
theorem duo_rwide (hL : Rises L) (hD : Duo B w t q room A L) :
    Calls Try.prog 28 #[.pointer (some ⟨q, 0, none⟩), .int .i64 h] w fun e w' => e = .returned (.tuple #[boxV ((boxOf L h).getD noB), .bool (hasL L h)]) ∧ Below w.heap.size w w' := by
  obtain ⟨S, v, h1, h2, h3, h4, h5⟩ := hD
  exact wide28_any q v room L hL h w h2
theorem duo_rfind (hn : L.length ≤ 1024) (b : Bx) (hD : Duo B w t q room A L) :
    Calls Try.prog 26 #[.pointer (some ⟨q, 0, none⟩), boxV b] w fun e w' => ∃ v, e = .returned v ∧ Rd w' v (foundL L b).length 1 (ints (foundL L b)) ∧ Below w.heap.size w w' := by
  obtain ⟨S, v, h1, h2, h3, h4, h5⟩ := hD
  exact find26_any q v room L b w h2 hn
theorem duo_rpairs (hL : Rises L) (hn : L.length ≤ 1024) (hD : Duo B w t q room A L) :
    Calls Try.prog 29 #[.pointer (some ⟨q, 0, none⟩)] w fun e w' => ∃ v, e = .returned v ∧ Rd w' v (pairsL L).length 2 (pairCells (pairsL L)) ∧ Below w.heap.size w w' := by
  obtain ⟨S, v, h1, h2, h3, h4, h5⟩ := hD
  exact pairs29_any q v room L hL w h2 hn
end
/-- What one sees of the reference's list. -/
theorem duo_list {B : Nat} {w : World} {t q room : Nat} {A L : List Lf} (hD : Duo B w t q room A L) : ∃ a c, ∀ W, Below w.heap.size w W → W.cell? ⟨q, 0, none⟩ = some (.slice a L.length c) := by
  obtain ⟨S, v, h1, h2, h3, h4, h5⟩ := hD
  obtain ⟨a, c, rfl, -, -⟩ := h2.shape
  exact ⟨a, c, fun W hW => (h2.1.below hW h2.1.lt).cell 0⟩
end Go.Proofs.Ytadfmhjnmmmalaa
