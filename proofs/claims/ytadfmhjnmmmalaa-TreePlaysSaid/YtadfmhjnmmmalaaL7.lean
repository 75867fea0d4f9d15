/- Trees: a tree of the call's own beside a row of handles. -/
import Derived.Test.YtadfmhjnmmmalaaL6
namespace Go.Proofs.Ytadfmhjnmmmalaa
open Go.RowKit Go.Maps
theorem add_at (b off j : Nat) : (⟨b, off, none⟩ : Addr).add j = ⟨b, off + j, none⟩ := by unfold Addr.add; split <;> simp_all
/-- What a row's piece holds, cell by cell. -/
theorem own_news {w : World} {B n g cap : Nat} {xs : List Int} (h : w.ownsRow B 30 1 (.slice (some ⟨g, 0, none⟩) n cap) n (ints xs)) (off : Nat) (ys : List Int) (hy : ∀ j y, ys[j]? = some y → xs[off + j]? = some y) : ∀ j u, (ints ys)[j]? = some u → w.cell? ((⟨g, off, none⟩ : Addr).add j) = some u := by
  intro j u hu
  rw [List.getElem?_map] at hu
  obtain ⟨y, h1, rfl⟩ := Option.map_eq_some_iff.1 hu
  have h2 := hy j y h1
  have hl : (ints xs).length = n * 1 := h.1
  have h3 : off + j < n * 1 := by
    rw [← hl, List.length_map]
    exact (List.getElem?_eq_some_iff.1 h2).1
  have := (Rd.of_own h).at h3
  rw [Nat.zero_add] at this
  rw [add_at, this, List.getElem?_map, h2]
  rfl
/-- A tree, and a row of handles that is none of its. -/
def TreeV (B : Nat) (w : World) (t room : Nat) (L : List Lf) (v : Value) (n : Nat) (xs : List Int) : Prop :=
  ∃ S, Tree w t S room L ∧ (∀ j, S j → B ≤ j) ∧ w.ownsRow B 30 1 v n (ints xs) ∧ ∀ b, v.ownBlock = some b → ¬ S b
theorem TreeV.own {B : Nat} {w : World} {t room n : Nat} {L : List Lf} {v : Value} {xs : List Int} (h : TreeV B w t room L v n xs) : w.ownsRow B 30 1 v n (ints xs) := by
  obtain ⟨S, h1, h2, h3, h4⟩ := h
  exact h3
theorem TreeV.tree {B : Nat} {w : World} {t room n : Nat} {L : List Lf} {v : Value} {xs : List Int} (h : TreeV B w t room L v n xs) : TreeN B w t room L := by
  obtain ⟨S, h1, h2, h3, h4⟩ := h
  exact ⟨S, h1, h2⟩
theorem Tree.rises {w : World} {t : Nat} {S : Nat → Prop} {room : Nat} {L : List Lf} (h : Tree w t S room L) : Rises L ∧ ∀ x ∈ L, In64 x.1 := by
  obtain ⟨vn, vf, mb, ns, fr, root, D, o, rfl, hR, hS, hT, hp, hL, hns, hl, hr, h64⟩ := h
  exact ⟨hL, h64⟩
theorem TreeV.rises {B : Nat} {w : World} {t room n : Nat} {L : List Lf} {v : Value} {xs : List Int} (h : TreeV B w t room L v n xs) : Rises L ∧ ∀ x ∈ L, In64 x.1 := by
  obtain ⟨S, h1, h2, h3, h4⟩ := h
  exact h1.rises
theorem TreeV.new {B : Nat} {w w' : World} {t room n : Nat} {L : List Lf} {v : Value} {xs : List Int} (h : TreeV B w t room L v n xs) (hB : Below w.heap.size w w') : TreeV B w' t room L v n xs := by
  obtain ⟨S, h1, h2, h3, h4⟩ := h
  exact ⟨S, h1.below hB, h2, own_new h3 hB, h4⟩
/-- Another row, of a younger block. -/
theorem TreeV.other {B : Nat} {w w' : World} {t room n m : Nat} {L : List Lf} {v u : Value} {xs ys : List Int} (h : TreeV B w t room L v n xs) (hB : Below w.heap.size w w') (hu : w'.ownsRow B 30 1 u m (ints ys)) (hn : ∀ b, u.ownBlock = some b → w.heap.size ≤ b) : TreeV B w' t room L u m ys := by
  obtain ⟨S, h1, h2, h3, h4⟩ := h
  exact ⟨S, h1.below hB, h2, hu, fun b hb hs => by have := hn b hb; have := h1.lt b hs; omega⟩
/-- The row grows. -/
theorem TreeV.grown {B : Nat} {w w' : World} {t room n m : Nat} {L : List Lf} {v u : Value} {xs ys : List Int} (h : TreeV B w t room L v n xs) (hg : w.grownBy w' v.ownBlock) (hu : w'.ownsRow B 30 1 u m (ints ys)) (hn : u.ownBlock = v.ownBlock ∨ u.ownBlock = some w.heap.size) : TreeV B w' t room L u m ys := by
  obtain ⟨S, h1, h2, h3, h4⟩ := h
  refine ⟨S, h1.mod (M := fun j => v.ownBlock = some j) ⟨hg.os, hg.tape, hg.output, hg.size, fun k hk hs => hg.block k hk (fun e => hs e.symm)⟩ (fun j hj hs => h4 j hs hj), h2, hu, fun b hb hs => ?_⟩
  rcases hn with hn | hn
  · exact h4 b (by rw [← hn]; exact hb) hs
  · rw [hn] at hb
    cases hb
    exact Nat.lt_irrefl _ (h1.lt _ hs)
theorem TreeV.turn {B : Nat} {w w' : World} {t room n : Nat} {L' : List Lf} {v : Value} {xs : List Int} {S S' : Nat → Prop} (h1 : ∀ j, S j → j < w.heap.size) (h3 : w.ownsRow B 30 1 v n (ints xs)) (h4 : ∀ b, v.ownBlock = some b → ¬ S b) (h5 : Tree w' t S' room L') (h6 : ∀ j, S' j → B ≤ j) (hT : Turn S S' w w') : TreeV B w' t room L' v n xs :=
  ⟨S', h5, h6, own_keep h3 (fun g _ e hh => hT.1.block g (Array.getElem?_eq_some_iff.1 hh).1 (h4 g e)), fun b hb hs => by
    rcases hT.2 b hs with h | h
    · exact h4 b hb h
    · have := own_lt h3 hb
      omega⟩
/-- A box is none of a tree's blocks. -/
theorem Tree.no_box {w : World} {t : Nat} {S : Nat → Prop} {room : Nat} {L : List Lf} (h : Tree w t S room L) {b : Nat} {vs : List Value} (hb : Blk w b 34 vs) : ¬ S b := by
  obtain ⟨vn, vf, mb, ns, fr, root, D, o, rfl, hR, _⟩ := h
  rintro (rfl | h1 | h1 | rfl)
  · exact blk_type_ne hb hR.1 (by decide) rfl
  · exact own_ne hR.2.1 hb (by decide) h1
  · exact own_ne hR.2.2.1 hb (by decide) h1
  · obtain ⟨es, clock, hh, _⟩ := hR.2.2.2
    unfold Blk at hb
    rw [hh] at hb
    cases hb
theorem treev_put (B t room : Nat) (L : List Lf) (v : Value) (n : Nat) (xs : List Int) (h : Int) (hh : In64 h) (b : Bx) (w : World) (hT : TreeV B w t room L v n xs) (hB : B ≤ w.heap.size) :
    Calls Try.prog 10 #[.pointer (some ⟨t, 0, none⟩), .int .i64 h, boxV b] w fun e w' => e = .returned (.int .i64 (putR room L h b).1) ∧ TreeV B w' t room (putR room L h b).2 v n xs ∧ Below B w w' := by
  obtain ⟨S, h1, h2, h3, h4⟩ := hT
  refine (put10_any t S room L h hh b w h1).mono ?_
  rintro e w' ⟨rfl, S', h5, h6⟩
  obtain ⟨a, c⟩ := h6.below h2 hB
  exact ⟨rfl, .turn h1.lt h3 h4 h5 c h6, a⟩
theorem treev_drop (B t room : Nat) (L : List Lf) (v : Value) (n : Nat) (xs : List Int) (h : Int) (hh : In64 h) (w : World) (hT : TreeV B w t room L v n xs) (hB : B ≤ w.heap.size) :
    Calls Try.prog 16 #[.pointer (some ⟨t, 0, none⟩), .int .i64 h] w fun e w' => e = .returned (.int .i64 (if hasL L h then 0 else 81)) ∧ TreeV B w' t room (delL L h) v n xs ∧ Below B w w' ∧ ∀ b vs, Blk w b 34 vs → Blk w' b 34 vs := by
  obtain ⟨S, h1, h2, h3, h4⟩ := hT
  refine (drop16_any t S room L h hh w h1).mono ?_
  rintro e w' ⟨rfl, S', h5, h6⟩
  obtain ⟨a, c⟩ := h6.below h2 hB
  exact ⟨rfl, .turn h1.lt h3 h4 h5 c h6, a, fun b vs hb => hb.mod h6.1 (h1.no_box hb)⟩
theorem find_own (B t room : Nat) (L : List Lf) (q : Bx) (w : World) (hT : TreeN B w t room L) :
    Calls Try.prog 18 #[.pointer (some ⟨t, 0, none⟩), boxV q] w fun e w' => ∃ v, e = .returned v ∧ Rd w' v (foundL L q).length 1 (ints (foundL L q)) ∧ Below w.heap.size w w' := by
  obtain ⟨S, h1, h2⟩ := hT
  refine (find18_any t S room L q w h1).mono ?_
  rintro e w' ⟨v, rfl, h6, h7⟩
  exact ⟨v, rfl, h6.1, h7⟩
theorem len_own (B t room : Nat) (L : List Lf) (w : World) (hT : TreeN B w t room L) :
    Calls Try.prog 19 #[.pointer (some ⟨t, 0, none⟩)] w fun e w' => e = .returned (.int .i64 (L.length : Int)) ∧ w' = w := by
  obtain ⟨S, h1, h2⟩ := hT
  exact len19_any t S room L w h1
theorem TreeN.drewN {B : Nat} {w : World} {t room : Nat} {L : List Lf} (h : TreeN B w t room L) (j : Nat) : TreeN B (w.drewN j) t room L := h.new (Below.drewN' (Below.refl _ _) j)
end Go.Proofs.Ytadfmhjnmmmalaa
