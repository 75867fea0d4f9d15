/- Trees: the reference's Move. -/
import Derived.Test.YtadfmhjnmmmalaaR6
namespace Go.Proofs.Ytadfmhjnmmmalaa
open Go.RowKit Go.Maps
theorem set_seven (a b c d e f g : Value) (l : List Value) (p : Nat) (v : Value) : (a :: b :: c :: d :: e :: f :: g :: l).set (p + 7) v = a :: b :: c :: d :: e :: f :: g :: l.set p v := rfl
theorem lf_cons (y : Lf) (L : List Lf) : lfCells (y :: L) = .int .i64 y.1 :: .int .i64 y.2.x0 :: .int .i64 y.2.y0 :: .int .i64 y.2.z0 :: .int .i64 y.2.x1 :: .int .i64 y.2.y1 :: .int .i64 y.2.z1 :: lfCells L := rfl
theorem lf_sets : ∀ (L : List Lf) (i : Nat) (x : Lf) (b : Bx), L[i]? = some x → ((((((lfCells L).set (i * 7 + 1) (.int .i64 b.x0)).set (i * 7 + 1 + 1) (.int .i64 b.y0)).set (i * 7 + 1 + 2) (.int .i64 b.z0)).set (i * 7 + 1 + 3) (.int .i64 b.x1)).set (i * 7 + 1 + 4) (.int .i64 b.y1)).set (i * 7 + 1 + 5) (.int .i64 b.z1) = lfCells (L.set i (x.1, b))
  | [], _, _, _, h => by cases h
  | y :: L, 0, x, b, h => by
    simp only [List.getElem?_cons_zero, Option.some.injEq] at h
    subst h
    rfl
  | y :: L, i + 1, x, b, h => by
    simp only [List.getElem?_cons_succ] at h
    have ih := lf_sets L i x b h
    rw [lf_cons, show (i + 1) * 7 + 1 = i * 7 + 1 + 7 by omega, show i * 7 + 1 + 7 + 1 = i * 7 + 1 + 1 + 7 by omega, show i * 7 + 1 + 7 + 2 = i * 7 + 1 + 2 + 7 by omega, show i * 7 + 1 + 7 + 3 = i * 7 + 1 + 3 + 7 by omega, show i * 7 + 1 + 7 + 4 = i * 7 + 1 + 4 + 7 by omega, show i * 7 + 1 + 7 + 5 = i * 7 + 1 + 5 + 7 by omega, set_seven, set_seven, set_seven, set_seven, set_seven, set_seven, ih]
    rfl
theorem ins_set {L : List Lf} (hL : Rises L) {i : Nat} {x : Lf} (hx : L[i]? = some x) (g : Bx) : insL L x.1 g = L.set i (x.1, g) := by
  obtain ⟨hlt, hx2⟩ := List.getElem?_eq_some_iff.1 hx
  have hsp : L = L.take i ++ x :: L.drop (i + 1) := by
    conv => lhs; rw [← List.take_append_drop i L, List.drop_eq_getElem_cons hlt, hx2]
  have hp : Rises (L.take i ++ x :: L.drop (i + 1)) := by rw [← hsp]; exact hL
  have h1 := List.pairwise_append.1 hp
  have h2 := List.pairwise_cons.1 h1.2.1
  have hA : ∀ z ∈ L.take i, z.1 < x.1 := fun z hz => h1.2.2 z hz x (by simp)
  have hC : ∀ z ∈ L.drop (i + 1), x.1 < z.1 := fun z hz => h2.1 z hz
  have e1 : L.filter (fun z => decide (z.1 < x.1)) = L.take i := by
    conv => lhs; rw [hsp]
    rw [List.filter_append, List.filter_eq_self.2 (fun z hz => by have := hA z hz; simp; omega), List.filter_cons_of_neg (by simp), List.filter_eq_nil_iff.2 (fun z hz => by have := hC z hz; simp; omega), List.append_nil]
  have e2 : L.filter (fun z => decide (x.1 < z.1)) = L.drop (i + 1) := by
    conv => lhs; rw [hsp]
    have e3 : (L.take i).filter (fun z => decide (x.1 < z.1)) = [] := List.filter_eq_nil_iff.2 (fun z hz => by have := hA z hz; simp; omega)
    rw [List.filter_append, e3, List.nil_append, List.filter_cons_of_neg (by simp), List.filter_eq_self.2 (fun z hz => by have := hC z hz; simp; omega)]
  unfold insL
  rw [e1, e2, List.set_eq_take_append_cons_drop, if_pos hlt]
/-- A leaf's box is laid anew. -/
theorem Ref.store {w wn : World} {q g N c : Nat} {room : Nat} {L : List Lf} (h : Ref w q (.slice (some ⟨g, 0, none⟩) N c) room L) (hN : N = L.length) (hB : Below w.heap.size w wn) {i : Nat} {x : Lf} (hx : L[i]? = some x) (gb : Bx) :
    Ref ((((((wn.setCell ⟨g, i * 7 + 1, none⟩ (.int .i64 gb.x0)).setCell ⟨g, i * 7 + 1 + 1, none⟩ (.int .i64 gb.y0)).setCell ⟨g, i * 7 + 1 + 2, none⟩ (.int .i64 gb.z0)).setCell ⟨g, i * 7 + 1 + 3, none⟩ (.int .i64 gb.x1)).setCell ⟨g, i * 7 + 1 + 4, none⟩ (.int .i64 gb.y1)).setCell ⟨g, i * 7 + 1 + 5, none⟩ (.int .i64 gb.z1)) q (.slice (some ⟨g, 0, none⟩) N c) room (L.set i (x.1, gb)) ∧ Turn (RefS q (.slice (some ⟨g, 0, none⟩) N c)) (RefS q (.slice (some ⟨g, 0, none⟩) N c)) w ((((((wn.setCell ⟨g, i * 7 + 1, none⟩ (.int .i64 gb.x0)).setCell ⟨g, i * 7 + 1 + 1, none⟩ (.int .i64 gb.y0)).setCell ⟨g, i * 7 + 1 + 2, none⟩ (.int .i64 gb.z0)).setCell ⟨g, i * 7 + 1 + 3, none⟩ (.int .i64 gb.x1)).setCell ⟨g, i * 7 + 1 + 4, none⟩ (.int .i64 gb.y1)).setCell ⟨g, i * 7 + 1 + 5, none⟩ (.int .i64 gb.z1)) := by
  have hi := (List.getElem?_eq_some_iff.1 hx).1
  have hn := h.below hB
  have hqg : q ≠ g := fun e => own_ne hn.2 hn.1 (by decide) (by rw [e]; rfl)
  have ho := hn.2
  rw [← hN] at ho hi
  have o1 := own_setk ho (k := i * 7 + 1) (by omega) (.int .i64 gb.x0)
  have o2 := own_setk o1 (k := i * 7 + 1 + 1) (by omega) (.int .i64 gb.y0)
  have o3 := own_setk o2 (k := i * 7 + 1 + 2) (by omega) (.int .i64 gb.z0)
  have o4 := own_setk o3 (k := i * 7 + 1 + 3) (by omega) (.int .i64 gb.x1)
  have o5 := own_setk o4 (k := i * 7 + 1 + 4) (by omega) (.int .i64 gb.y1)
  have o6 := own_setk o5 (k := i * 7 + 1 + 5) (by omega) (.int .i64 gb.z1)
  rw [lf_sets L i x gb hx] at o6
  have b6 := (((((hn.1.setCell_ne (p := ⟨g, i * 7 + 1, none⟩) hqg (.int .i64 gb.x0)).setCell_ne (p := ⟨g, i * 7 + 1 + 1, none⟩) hqg (.int .i64 gb.y0)).setCell_ne (p := ⟨g, i * 7 + 1 + 2, none⟩) hqg (.int .i64 gb.z0)).setCell_ne (p := ⟨g, i * 7 + 1 + 3, none⟩) hqg (.int .i64 gb.x1)).setCell_ne (p := ⟨g, i * 7 + 1 + 4, none⟩) hqg (.int .i64 gb.y1)).setCell_ne (p := ⟨g, i * 7 + 1 + 5, none⟩) hqg (.int .i64 gb.z1)
  have hS : ∀ {a : World} {p : Addr}, p.block = g → p.block < a.heap.size → RefS q (.slice (some ⟨g, 0, none⟩) N c) p.block := fun e _ => .inr (by rw [e]; rfl)
  have m0 : Mod (RefS q (.slice (some ⟨g, 0, none⟩) N c)) w wn := ⟨hB.os, hB.tape, hB.output, hB.size, fun k hk _ => hB.block k hk⟩
  have m6 := (((((m0.setCell (p := ⟨g, i * 7 + 1, none⟩) (fun _ => .inr rfl) (.int .i64 gb.x0)).setCell (p := ⟨g, i * 7 + 1 + 1, none⟩) (fun _ => .inr rfl) (.int .i64 gb.y0)).setCell (p := ⟨g, i * 7 + 1 + 2, none⟩) (fun _ => .inr rfl) (.int .i64 gb.z0)).setCell (p := ⟨g, i * 7 + 1 + 3, none⟩) (fun _ => .inr rfl) (.int .i64 gb.x1)).setCell (p := ⟨g, i * 7 + 1 + 4, none⟩) (fun _ => .inr rfl) (.int .i64 gb.y1)).setCell (p := ⟨g, i * 7 + 1 + 5, none⟩) (fun _ => .inr rfl) (.int .i64 gb.z1)
  refine ⟨⟨b6, ?_⟩, m6, fun j hj => .inl hj⟩
  rw [List.length_set, ← hN]
  exact o6
set_option maxRecDepth 100000 in
set_option maxHeartbeats 4000000 in
theorem move24_any (q : Nat) (v : Value) (room : Nat) (L : List Lf) (hL : Rises L) (h : Int) (b : Bx) (w : World) (hR : Ref w q v room L) :
    Calls Try.prog 24 #[.pointer (some ⟨q, 0, none⟩), .int .i64 h, boxV b] w fun e w' => e = .returned (.tuple #[.bool (moveR L h b).1, .int .i64 (moveR L h b).2.1]) ∧ ∃ v', Ref w' q v' room (moveR L h b).2.2 ∧ Turn (RefS q v) (RefS q v') w w' := by
  obtain ⟨a, c, rfl, h1, h2⟩ := hR.shape
  obtain ⟨N, hN⟩ : ∃ N, N = L.length := ⟨_, rfl⟩
  have B0 : Below w.heap.size w (w.alloc (.cells b.cells.toArray 34)) := (Below.refl _ w).alloc (Nat.le_refl _) _
  have hbk := Blk.newAt (w := w) (b := w.heap.size) rfl 34 b.cells
  have hfail : ∀ (r : Int) (w' : World), Below w.heap.size w w' → moveR L h b = (false, r, L) → (Ending.returned (.tuple #[.bool false, .int .i64 r]) = .returned (.tuple #[.bool (moveR L h b).1, .int .i64 (moveR L h b).2.1]) ∧ ∃ v', Ref w' q v' room (moveR L h b).2.2 ∧ Turn (RefS q (.slice a L.length c)) (RefS q v') w w') := fun r w' hW e => by
    rw [e]
    exact ⟨rfl, _, hR.below hW, Turn.of_below _ hW⟩
  have HR := Lib.hid hR
  have HL := Lib.hid hL
  have HN := Lib.hid hN
  have Hfail := Lib.hid hfail
  have Hbk := Lib.hid hbk
  have HB0 := Lib.hid B0
  have hR1 := hR.below B0
  rw [← hN] at h1
  clear hL hN hR hfail hbk B0
  go_enter Try.func24, Try.ntmps24
  go_upto_region 1 with (fail)
  obtain ⟨w1, hw1⟩ : ∃ w1, w.alloc (.cells b.cells.toArray 34) = w1 := ⟨_, rfl⟩
  change Code.wp _ _ _ _ (w.alloc (.cells b.cells.toArray 34))
  rw [hw1] at Hbk HB0 hR1 ⊢
  clear hw1
  generalize hb5 : w.heap.size = b5 at Hbk ⊢
  have Hb5 := Lib.hid hb5
  clear hb5
  go_wp2_with fail
  refine (place38_any q _ room L h w1 hR1).mono ?_
  rintro e w2 ⟨rfl, ⟨i, x, rfl, hx, hh⟩ | ⟨rfl, hn⟩⟩
  · subst hh
    have hi0 : ¬ (i : Int) < 0 := by omega
    have hbo : boxOf L x.1 = some x.2 := (boxOf_some HL.out).2 (List.mem_of_getElem? hx)
    have hiN : i < N := by rw [HN.out]; exact (List.getElem?_eq_some_iff.1 hx).1
    have hiI : (i : Int) < (N : Int) := by omega
    have Hbo := Lib.hid hbo
    have Hx := Lib.hid hx
    have d0 : _ = some (Value.int .i64 b.x0) := Hbk.out.cell 0
    have d1 : _ = some (Value.int .i64 b.y0) := Hbk.out.cell 1
    have d2 : _ = some (Value.int .i64 b.z0) := Hbk.out.cell 2
    have d3 : _ = some (Value.int .i64 b.x1) := Hbk.out.cell 3
    have d4 : _ = some (Value.int .i64 b.y1) := Hbk.out.cell 4
    have d5 : _ = some (Value.int .i64 b.z1) := Hbk.out.cell 5
    have hs2 := HB0.out.size
    clear hbo hx hR1
    go_wp2_with fail
    refine (may39_any b w2).mono ?_
    rintro e w3 ⟨rfl, hB3⟩
    have Hbk3 := Lib.hid (Hbk.out.below hB3 Hbk.out.lt)
    have HB3 := Lib.hid (HB0.out.trans (hB3.mono hs2))
    clear d0 d1 d2 d3 d4 d5 hB3 Hbk
    cases hm : mayB b with
    | false =>
      have Hp : Hid (moveR L x.1 b = (false, 1, L)) := Lib.hid (by unfold moveR; rw [Hbo.out]; simp only; rw [if_pos hm])
      clear hm
      go_wp2
      go_ret2
      exact Hfail.out _ _ HB3.out Hp.out
    | true =>
      have Hm := Lib.hid hm
      have hown := (HR.out.below HB3.out).2
      rw [← HN.out] at hown
      obtain ⟨g, gc, e0⟩ := own_addr hown (by omega)
      obtain ⟨rfl, -⟩ : a = some ⟨g, 0, none⟩ ∧ True := by cases e0; exact ⟨rfl, trivial⟩
      have HRN : Hid (Ref w q (.slice (some ⟨g, 0, none⟩) N c) room L) := Lib.hid (by rw [HN.out]; exact HR.out)
      have hat : ∀ W, Below w.heap.size w W → W.cell? ⟨q, 0, none⟩ = some (.slice (some ⟨g, 0, none⟩) N c) ∧ W.ownsRow 0 88 7 (.slice (some ⟨g, 0, none⟩) N c) N (lfCells L) := fun W hW => by
        have h3 := HRN.out.below hW
        have h4 := h3.1.cell 0
        simp only [List.getElem?_cons_zero] at h4
        have h5 := h3.2
        rw [← HN.out] at h5
        exact ⟨h4, h5⟩
      have Hat := Lib.hid hat
      have hs3 := HB3.out.size
      clear hm hown e0 hat
      go_wp2_with fail
      have R0 : ∀ u : After w3, u.W.cell? ⟨q, 0, none⟩ = some (.slice (some ⟨g, 0, none⟩) N c) := fun u => (Hat.out u.W (HB3.out.trans (u.h.mono hs3))).1
      have p0 : ∀ u : After w3, u.W.cell? ⟨b5, 0, none⟩ = some (.int .i64 b.x0) := fun u => (Hbk3.out.below u.h Hbk3.out.lt).cell 0
      have p1 : ∀ u : After w3, u.W.cell? ⟨b5, 1, none⟩ = some (.int .i64 b.y0) := fun u => (Hbk3.out.below u.h Hbk3.out.lt).cell 1
      have p2 : ∀ u : After w3, u.W.cell? ⟨b5, 2, none⟩ = some (.int .i64 b.z0) := fun u => (Hbk3.out.below u.h Hbk3.out.lt).cell 2
      have p3 : ∀ u : After w3, u.W.cell? ⟨b5, 3, none⟩ = some (.int .i64 b.x1) := fun u => (Hbk3.out.below u.h Hbk3.out.lt).cell 3
      have p4 : ∀ u : After w3, u.W.cell? ⟨b5, 4, none⟩ = some (.int .i64 b.y1) := fun u => (Hbk3.out.below u.h Hbk3.out.lt).cell 4
      have p5 : ∀ u : After w3, u.W.cell? ⟨b5, 5, none⟩ = some (.int .i64 b.z1) := fun u => (Hbk3.out.below u.h Hbk3.out.lt).cell 5
      have r0 : ∀ u : After w3, u.W.cell? ⟨g, i * 7 + 1, none⟩ = some (.int .i64 x.2.x0) := fun u => (own_leaf (Hat.out u.W (HB3.out.trans (u.h.mono hs3))).2 hiN Hx.out).2.1
      have r1 : ∀ u : After w3, u.W.cell? ⟨g, i * 7 + 1 + 1, none⟩ = some (.int .i64 x.2.y0) := fun u => (own_leaf (Hat.out u.W (HB3.out.trans (u.h.mono hs3))).2 hiN Hx.out).2.2.1
      have r2 : ∀ u : After w3, u.W.cell? ⟨g, i * 7 + 1 + 2, none⟩ = some (.int .i64 x.2.z0) := fun u => (own_leaf (Hat.out u.W (HB3.out.trans (u.h.mono hs3))).2 hiN Hx.out).2.2.2.1
      have r3 : ∀ u : After w3, u.W.cell? ⟨g, i * 7 + 1 + 3, none⟩ = some (.int .i64 x.2.x1) := fun u => (own_leaf (Hat.out u.W (HB3.out.trans (u.h.mono hs3))).2 hiN Hx.out).2.2.2.2.1
      have r4 : ∀ u : After w3, u.W.cell? ⟨g, i * 7 + 1 + 4, none⟩ = some (.int .i64 x.2.y1) := fun u => (own_leaf (Hat.out u.W (HB3.out.trans (u.h.mono hs3))).2 hiN Hx.out).2.2.2.2.2.1
      have r5 : ∀ u : After w3, u.W.cell? ⟨g, i * 7 + 1 + 5, none⟩ = some (.int .i64 x.2.z1) := fun u => (own_leaf (Hat.out u.W (HB3.out.trans (u.h.mono hs3))).2 hiN Hx.out).2.2.2.2.2.2
      obtain ⟨eq, heq0⟩ : ∃ eq, eq = decide (joinB b x.2 = x.2) := ⟨_, rfl⟩
      have heq : ∀ W, (binOp .eql 34 (boxV (joinB b x.2)) (boxV x.2)).run Try.prog W = .ok (.bool eq) W := fun W => by rw [eqBox, heq0]
      have hg34 := guard34
      have Heq := Lib.hid heq0
      clear heq0
      refine wp_region_after (by kernel_rfl) (by kernel_rfl) ?_
      repeat (go_big_quiet_step ((go_at_call 40; exact calls_after _ (join40_any b x.2 _))))
      refine wpQuiet_nil ?_
      intro w9 hw9
      obtain ⟨u9, rfl⟩ := hw9
      have HB4 := Lib.hid (HB3.out.trans (u9.h.mono hs3))
      have Hbk4 := Lib.hid (Hbk3.out.below u9.h Hbk3.out.lt)
      clear R0 heq hg34 p0 p1 p2 p3 p4 p5 r0 r1 r2 r3 r4 r5 HB3 Hbk3
      generalize u9.W = w4 at *
      cases eq with
      | true =>
        have hj : joinB b x.2 = x.2 := by have := Heq.out; simpa using this.symm
        have Hp : Hid (moveR L x.1 b = (false, 0, L)) := Lib.hid (by unfold moveR; rw [Hbo.out]; simp only; rw [if_neg (by rw [Hm.out]; simp), if_pos hj])
        clear hj
        go_wp2
        go_ret2
        exact Hfail.out _ _ HB4.out Hp.out
      | false =>
        have hj : ¬ joinB b x.2 = x.2 := by have := Heq.out; simpa using this.symm
        have Hp : Hid (moveR L x.1 b = (true, 0, insL L x.1 (grownB b))) := Lib.hid (by unfold moveR; rw [Hbo.out]; simp only; rw [if_neg (by rw [Hm.out]; simp), if_neg hj])
        clear hj
        obtain ⟨gb, hgb⟩ : ∃ gb, gb = grownB b := ⟨_, rfl⟩
        have Hgb := Lib.hid hgb
        clear hgb
        have hs4 := HB4.out.size
        have HQ : Hid (∀ W, Below w4.heap.size w4 W → (fun W => W.cell? ⟨q, 0, none⟩ = some (.slice (some ⟨g, 0, none⟩) N c) ∧ W.cell? ⟨b5, 0, none⟩ = some (.int .i64 b.x0) ∧ W.cell? ⟨b5, 1, none⟩ = some (.int .i64 b.y0) ∧ W.cell? ⟨b5, 2, none⟩ = some (.int .i64 b.z0) ∧ W.cell? ⟨b5, 3, none⟩ = some (.int .i64 b.x1) ∧ W.cell? ⟨b5, 4, none⟩ = some (.int .i64 b.y1) ∧ W.cell? ⟨b5, 5, none⟩ = some (.int .i64 b.z1)) W) := Lib.hid fun W hW => by
          have h3 := Hat.out W (HB4.out.trans (hW.mono hs4))
          have h4 := Hbk4.out.below hW Hbk4.out.lt
          exact ⟨h3.1, h4.cell 0, h4.cell 1, h4.cell 2, h4.cell 3, h4.cell 4, h4.cell 5⟩
        have HBc := (Below.refl w4.heap.size w4).drew
        go_wp2_with fail
        go_region_held3 (fun W => W.cell? ⟨q, 0, none⟩ = some (.slice (some ⟨g, 0, none⟩) N c) ∧ W.cell? ⟨b5, 0, none⟩ = some (.int .i64 b.x0) ∧ W.cell? ⟨b5, 1, none⟩ = some (.int .i64 b.y0) ∧ W.cell? ⟨b5, 2, none⟩ = some (.int .i64 b.z0) ∧ W.cell? ⟨b5, 3, none⟩ = some (.int .i64 b.x1) ∧ W.cell? ⟨b5, 4, none⟩ = some (.int .i64 b.y1) ∧ W.cell? ⟨b5, 5, none⟩ = some (.int .i64 b.z1)) (first | with_reducible exact HQ.out _ HBc | exact HS2)
          ((go_at_call 41; with_reducible refine (grown41_any b Hm.out _).mono ?_; rintro e wn ⟨rfl, hBn⟩; rw [← Hgb.out]
            replace HBc := HBc.trans (hBn.mono HBc.size)
            have HBn := Lib.hid (HB4.out.trans (HBc.mono hs4))
            have hrow := (Hat.out wn HBn.out).2
            obtain ⟨z, z0, z1, z2, z3, z4, z5⟩ := own_leaf hrow hiN Hx.out
            have f0 := own_frozen hrow (i * 7 + 1)
            have f1 := own_frozen hrow (i * 7 + 1 + 1)
            have f2 := own_frozen hrow (i * 7 + 1 + 2)
            have f3 := own_frozen hrow (i * 7 + 1 + 3)
            have f4 := own_frozen hrow (i * 7 + 1 + 4)
            have f5 := own_frozen hrow (i * 7 + 1 + 5)
            have HST := Lib.hid (HRN.out.store HN.out HBn.out Hx.out gb)
            have HS2 : (fun W => W.cell? ⟨q, 0, none⟩ = some (.slice (some ⟨g, 0, none⟩) N c) ∧ W.cell? ⟨b5, 0, none⟩ = some (.int .i64 b.x0) ∧ W.cell? ⟨b5, 1, none⟩ = some (.int .i64 b.y0) ∧ W.cell? ⟨b5, 2, none⟩ = some (.int .i64 b.z0) ∧ W.cell? ⟨b5, 3, none⟩ = some (.int .i64 b.x1) ∧ W.cell? ⟨b5, 4, none⟩ = some (.int .i64 b.y1) ∧ W.cell? ⟨b5, 5, none⟩ = some (.int .i64 b.z1)) ((((((wn.setCell ⟨g, i * 7 + 1, none⟩ (.int .i64 gb.x0)).setCell ⟨g, i * 7 + 1 + 1, none⟩ (.int .i64 gb.y0)).setCell ⟨g, i * 7 + 1 + 2, none⟩ (.int .i64 gb.z0)).setCell ⟨g, i * 7 + 1 + 3, none⟩ (.int .i64 gb.x1)).setCell ⟨g, i * 7 + 1 + 4, none⟩ (.int .i64 gb.y1)).setCell ⟨g, i * 7 + 1 + 5, none⟩ (.int .i64 gb.z1)) := by
              have hq := HST.out.1.1.cell 0
              have hne : b5 ≠ g := fun e => own_ne hrow (Hbk4.out.below HBc Hbk4.out.lt) (by decide) (by rw [e]; rfl)
              have hb := (((((((Hbk4.out.below HBc Hbk4.out.lt).setCell_ne (p := ⟨g, i * 7 + 1, none⟩) hne (.int .i64 gb.x0)).setCell_ne (p := ⟨g, i * 7 + 1 + 1, none⟩) hne (.int .i64 gb.y0)).setCell_ne (p := ⟨g, i * 7 + 1 + 2, none⟩) hne (.int .i64 gb.z0)).setCell_ne (p := ⟨g, i * 7 + 1 + 3, none⟩) hne (.int .i64 gb.x1)).setCell_ne (p := ⟨g, i * 7 + 1 + 4, none⟩) hne (.int .i64 gb.y1)).setCell_ne (p := ⟨g, i * 7 + 1 + 5, none⟩) hne (.int .i64 gb.z1))
              exact ⟨hq, hb.cell 0, hb.cell 1, hb.cell 2, hb.cell 3, hb.cell 4, hb.cell 5⟩
            clear hrow z hBn))
        go_wp2
        go_ret2
        rw [Hp.out, ← Hgb.out, ins_set HL.out Hx.out, ← HN.out]
        exact ⟨rfl, _, HST.out.1, HST.out.2⟩
  · have Hp : Hid (moveR L h b = (false, 81, L)) := Lib.hid (by unfold moveR; rw [boxOf_none.2 hn])
    clear hn hR1
    go_wp2
    go_ret2
    exact Hfail.out _ _ HB0.out Hp.out
end Go.Proofs.Ytadfmhjnmmmalaa
