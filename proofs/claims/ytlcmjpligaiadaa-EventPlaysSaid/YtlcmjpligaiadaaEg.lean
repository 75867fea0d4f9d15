/- A queue's clone. -/
import Derived.Test.YtlcmjpligaiadaaEf
import Derived.WalkSpells
namespace Go.Proofs.Ytlcmjpligaiadaa
open Go.RowKit
theorem own_cur56 {w : World} {base b n c : Nat} {xs : List Value} (h : w.ownsRow base 56 3 (.slice (some ⟨b, 0, none⟩) n c) n xs) : ∃ E, Blk w b 56 (xs ++ E) ∧ n ≤ c ∧ c ≤ maxLen ∧ base ≤ b := by
  obtain ⟨h1, h2⟩ := h
  rcases h2 with ⟨h2, _⟩ | ⟨g, cap, cur, e, hb, hg, hn, hm, hs, ht⟩
  · cases h2
  · simp only [Value.slice.injEq, Option.some.injEq, Addr.mk.injEq, and_true, true_and] at e
    obtain ⟨rfl, rfl⟩ := e
    refine ⟨cur.toList.drop (n * 3), ?_, hn, hm, hb⟩
    unfold Blk
    rw [← ht, List.take_append_drop]
    exact hg
def Clone71 (n : Nat) (X : List Ev) (w : World) (e : Ending) (w' : World) : Prop :=
  ∃ g c E, e = .returned (.slice (some ⟨g, 0, none⟩) n c) ∧ Blk w' g 56 (evCells X ++ E) ∧ n ≤ c ∧ c ≤ maxLen ∧ w.heap.size ≤ g ∧ Below w.heap.size w w'
set_option maxRecDepth 100000 in
set_option maxHeartbeats 1000000 in
theorem clone71_any (g n c : Nat) (X : List Ev) (hX : X.length = n) (hn : 1 ≤ n) (hn2 : n ≤ 1024) (w : World) (hr : Rd w (.slice (some ⟨g, 0, none⟩) n c) n 3 (evCells X)) :
    Calls Try.prog 71 #[.slice (some ⟨g, 0, none⟩) n c] w (Clone71 n X w) := by
  obtain ⟨i0, hi, hz0, hz1, hz2⟩ := info_parts info56
  have Hr := Lib.hid hr
  have HX := Lib.hid hX
  clear hr hX
  have hnil : ∀ w, (binOp .eql 53 (.slice (some ⟨g, 0, none⟩) n c) (.slice none 0 0)).run Try.prog w = .ok (.bool false) w := fun w => Lib.run_eql_slice_nil w 53 56 (some ⟨g, 0, none⟩) n c 0 0 Try.underlying53
  go_enter Try.func71, Try.ntmps71
  go_wp2_with (at_builtin; refine wpList_append_rd rfl _ _ 53 rfl w.heap.size 56 i0 (.agg #[.int .i64 0, .int .i64 0, .int .i64 0]) 3 24 Try.underlying53 hi hz0 hz1 hz2 rfl (by decide) _ 0 [] rfl (ownsRow_blk (Blk.new w 56 []) rfl (by decide) (Nat.le_refl _)) _ n (evCells X) rfl (Hr.out.alloc _) (ev_one X) (by unfold maxLen; omega) (by omega) (by simp) ?_; intro v1 w1 o1 g1 q1)
  have hB := Below.grown ((Below.refl _ w).alloc (Nat.le_refl _) (.cells #[] 56)) g1 (by simp) (fun b h => by have h0 : (some w.heap.size) = some b := h; simp at h0; omega)
  go_ret
  rw [Nat.zero_add, List.nil_append] at o1
  obtain ⟨g2, c2, rfl⟩ := own_shape o1 (by omega)
  obtain ⟨E, e1, e2, e3, e4⟩ := own_cur56 o1
  exact ⟨g2, c2, E, rfl, e1, e2, e3, e4, hB⟩
def CloneP (n f m : Nat) (L : List Ev) (w : World) (e : Ending) (w' : World) : Prop :=
  ∃ q g c, e = .returned (.pointer (some ⟨q, 0, none⟩)) ∧ QC w' q g n c f m L ∧ Below w.heap.size w w' ∧ w.heap.size ≤ q ∧ w.heap.size ≤ g
set_option maxRecDepth 100000 in
set_option maxHeartbeats 1000000 in
theorem clone50_any (q g n c f m : Nat) (L : List Ev) (w : World) (h : QC w q g n c f m L) :
    Calls Try.prog 50 #[.pointer (some ⟨q, 0, none⟩)] w (CloneP n f m L w) := by
  obtain ⟨X, E, h1, h2, h3⟩ := h.ring
  have hl := ev_len X
  have hrd : Rd w (.slice (some ⟨g, 0, none⟩) n c) n 3 (evCells X) := ⟨_, c, rfl, by rw [hl, h2], h.cap.1, by have := h.cap.2; unfold maxLen; omega, fun _ => ⟨g, 0, rfl, h1.lt, fun i hi => by rw [Nat.zero_add, h1.cell, List.getElem?_append_left (by rw [hl, h2]; omega)]⟩⟩
  have hn := h.at'
  have hn2 := h.room
  have hcl := fun W (hr : Rd W (.slice (some ⟨g, 0, none⟩) n c) n 3 (evCells X)) => clone71_any g n c X h2 (by omega) hn2 W hr
  unfold Clone71 at hcl
  have c0 := h.head.cell 0
  have c1 := h.head.cell 1
  have c2 := h.head.cell 2
  simp only [List.getElem?_cons_zero, List.getElem?_cons_succ] at c0 c1 c2
  have hq := h.head.lt
  have HH := Lib.hid h
  have Hcl := Lib.hid hcl
  have H3 := Lib.hid h3
  have H2 := Lib.hid h2
  clear h hcl h3 h1 hl h2
  go_enter Try.func50, Try.ntmps50
  go_wp2_with fail
  obtain ⟨W0, hW0⟩ : ∃ W0, w.alloc (.cells #[.slice (some ⟨g, 0, none⟩) n c, .int .i64 f, .int .i64 m] 106) = W0 := ⟨_, rfl⟩
  have B0 : Below w.heap.size w W0 := by rw [← hW0]; exact (Below.refl _ w).alloc (Nat.le_refl _) _
  have x0 : Blk W0 w.heap.size 106 [.slice (some ⟨g, 0, none⟩) n c, .int .i64 f, .int .i64 m] := by rw [← hW0]; exact Blk.new w 106 [_, _, _]
  rw [hW0]
  clear hW0
  refine (Hcl.out W0 (hrd.new B0)).mono ?_
  rintro e w1 ⟨g2, c2', E2, rfl, b1, k1, k2, k3, B1⟩
  have x1 := x0.below B1 x0.lt
  have y0 := x1.cell 0
  have y1 := x1.frozen 0
  simp only [List.getElem?_cons_zero] at y0
  have hB := B0.trans (B1.mono B0.size)
  have hx0 := x0.lt
  go_wp2
  go_ret
  refine ⟨w.heap.size, g2, c2', rfl, ⟨x1.set 0 _, ⟨X, E2, b1.setCell_ne (p := ⟨w.heap.size, 0, none⟩) (by show g2 ≠ w.heap.size; omega) _, H2.out, H3.out⟩, HH.out.len, HH.out.full, HH.out.at', HH.out.room, k1, by unfold maxLen at k2; omega⟩, hB.setCell (Nat.le_refl _) _, Nat.le_refl _, by have := B0.size; omega⟩
end Go.Proofs.Ytlcmjpligaiadaa
