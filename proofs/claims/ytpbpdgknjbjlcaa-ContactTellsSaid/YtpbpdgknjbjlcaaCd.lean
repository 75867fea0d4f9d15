/- Contacts: whether a core may be. -/
import Derived.Test.YtpbpdgknjbjlcaaCc
namespace Go.Proofs.Ytpbpdgknjbjlcaa
open Go.RowKit
structure Cor where
  P : List Pt
  A : List Pt
  E : List Pt
  r : Int
abbrev corV (pv av ev : Value) (r : Int) : Value := .agg #[pv, av, ev, .int .i64 r]
def mayB (c : Cor) : Bool := decide (0 < c.P.length) && decide (c.P.length ≤ 32) && decide (c.A.length ≤ 128) && decide (c.E.length ≤ 128) && decide (0 ≤ c.r) && decide (c.r ≤ 65536) && c.P.all (nearB 16777216) && c.A.all (nearB 1048576) && c.E.all (nearB 1048576)
section
variable {P : Program} {md : Region.Mode} {l r : List Oper} {Q : Exit → Act → World → Prop} {S : World → Prop} {i : Nat} {oi : Oper} {fuel : Nat} {listed : Array Bool} {a : Act} {w : World}
theorem held_at (hi : l.drop i = oi :: r) : l.toArray[i]? = some oi := by
  have h := congrArg List.head? hi
  rw [List.head?_drop] at h
  simpa using h
theorem held_skip (hi : l.drop i = oi :: r) (hs : Region.noSelect l.toArray = true) (hf : Region.free md l.toArray listed i = true) (hr : (Region.ready md l.toArray listed).contains i = true)
    (hQ : ∀ c a w, Q (.panic c) (a.put oi.dst undef) w → Q (.panic c) a w) (hw : Region.wanted oi (yielded l.toArray a.tmps) = false) (hS : S w)
    (h : wpAnyH P md l.toArray Q S fuel (listed.setIfInBounds i true) (a.put oi.dst undef) w) : wpAnyH P md l.toArray Q S (fuel + 1) listed a w :=
  wpAnyH_take (held_at hi) hs hf hr hQ (.inr ⟨hw, rfl⟩) hS h
theorem held_take {v : Value} (hi : l.drop i = oi :: r) (hs : Region.noSelect l.toArray = true) (hf : Region.free md l.toArray listed i = true) (hr : (Region.ready md l.toArray listed).contains i = true)
    (hQ : ∀ c a w, Q (.panic c) (a.put oi.dst v) w → Q (.panic c) a w) (hw : Region.wanted oi (yielded l.toArray a.tmps) = true) (hv : ∀ w, S w → (execOp a.eval oi).run P w = .ok (.value v) w) (hS : S w)
    (h : wpAnyH P md l.toArray Q S fuel (listed.setIfInBounds i true) (a.put oi.dst v) w) : wpAnyH P md l.toArray Q S (fuel + 1) listed a w :=
  wpAnyH_take (held_at hi) hs hf hr hQ (.inl ⟨hw, hv⟩) hS h
theorem held_call (hi : l.drop i = oi :: r)
    (h : ∀ K' : Act → World → Prop, Shut (∀ a w, S w → (S w → wpAnyH P md l.toArray Q S fuel (listed.setIfInBounds i true) a w) → K' a w) → if Region.wanted oi (yielded l.toArray a.tmps) = true then Oper.wp P oi a w K' Q else K' (a.put oi.dst undef) w) : AllReadyH P md l.toArray Q S fuel listed a w [i] :=
  AllReadyH.cons (held_at hi) h AllReadyH.nil
end
theorem beyond33_new (K : Int) (w : World) : Calls Try.prog 33 #[.int .i64 K] w fun e w' => (∃ b, e = .returned (.func (.func 52) #[] #[.pointer (some ⟨b, 0, none⟩)]) ∧ Blk w' b 3 [.int .i64 K]) ∧ Below w.heap.size w w' := by
  refine (beyond33_any K w).mono ?_
  rintro e w' ⟨rfl, rfl⟩
  exact ⟨⟨_, rfl, Blk.newAt (w := w) (b := w.heap.size) rfl 3 [.int .i64 K]⟩, (Below.refl _ w).alloc (Nat.le_refl _) _⟩
set_option maxRecDepth 100000 in
theorem may28_0 (pv av ev : Value) (np na ne : Nat) (c : Cor) (w : World) (hp : c.P.length = np) (ha : c.A.length = na) (he : c.E.length = ne) (vp : Rd w pv np 3 (ptCells c.P)) (va : Rd w av na 3 (ptCells c.A)) (ve : Rd w ev ne 3 (ptCells c.E))
    (h0 : ¬ (0 < np)) :
    Calls Try.prog 28 #[corV pv av ev c.r] w fun e w' => e = .returned (.bool false) ∧ Below w.heap.size w w' := by
  obtain ⟨ap, cp, rfl, p1, p2⟩ := vp.shape
  obtain ⟨aa, ca, rfl, a1, a2⟩ := va.shape
  obtain ⟨ae, ce, rfl, e1, e2⟩ := ve.shape
  have B0 : Below w.heap.size w (w.alloc (.cells #[.slice ap np cp, .slice aa na ca, .slice ae ne ce, .int .i64 c.r] 24)) := (Below.refl _ w).alloc (Nat.le_refl _) _
  have hbk := Blk.newAt (w := w) (b := w.heap.size) rfl 24 [.slice ap np cp, .slice aa na ca, .slice ae ne ce, .int .i64 c.r]
  have VP := Lib.hid vp
  have VA := Lib.hid va
  have VE := Lib.hid ve
  have LP := Lib.hid hp
  have LA := Lib.hid ha
  have LE := Lib.hid he
  clear vp va ve hp ha he
  have g0 : decide (0 < np) = false := decide_eq_false h0
  have g0I : decide ((np : Int) > 0) = false := decide_eq_false (by omega)
  go_enter Try.func28, Try.ntmps28
  go_upto_region 1 with (fail)
  obtain ⟨w1, hw1⟩ : ∃ w1, w.alloc (.cells #[.slice ap np cp, .slice aa na ca, .slice ae ne ce, .int .i64 c.r] 24) = w1 := ⟨_, rfl⟩
  change Code.wp _ _ _ _ (w.alloc (.cells #[.slice ap np cp, .slice aa na ca, .slice ae ne ce, .int .i64 c.r] 24))
  rw [hw1] at B0 ⊢
  rw [show w.alloc (.cells [Value.slice ap np cp, .slice aa na ca, .slice ae ne ce, .int .i64 c.r].toArray 24) = w1 from hw1] at hbk
  clear hw1
  have F0 : ∀ u : After w1, u.W.cell? ⟨w.heap.size, 0, none⟩ = some (.slice ap np cp) := fun u => (hbk.below u.h hbk.lt).cell 0
  have F1 : ∀ u : After w1, u.W.cell? ⟨w.heap.size, 1, none⟩ = some (.slice aa na ca) := fun u => (hbk.below u.h hbk.lt).cell 1
  have F2 : ∀ u : After w1, u.W.cell? ⟨w.heap.size, 2, none⟩ = some (.slice ae ne ce) := fun u => (hbk.below u.h hbk.lt).cell 2
  have F3 : ∀ u : After w1, u.W.cell? ⟨w.heap.size, 3, none⟩ = some (.int .i64 c.r) := fun u => (hbk.below u.h hbk.lt).cell 3
  have hs1 := B0.size
  have HB0 := Lib.hid B0
  clear hbk B0
  refine wp_region_after (by kernel_rfl) (by kernel_rfl) ?_
  repeat (go_big_quiet_step (fail))
  refine wpQuiet_nil ?_
  intro w9 hw9
  obtain ⟨u9, rfl⟩ := hw9
  have HBc := u9.h
  clear F0 F1 F2 F3
  go_wp2
  all_goals (go_ret; exact ⟨rfl, HB0.out.trans (HBc.mono hs1)⟩)
set_option maxRecDepth 100000 in
theorem may28_1 (pv av ev : Value) (np na ne : Nat) (c : Cor) (w : World) (hp : c.P.length = np) (ha : c.A.length = na) (he : c.E.length = ne) (vp : Rd w pv np 3 (ptCells c.P)) (va : Rd w av na 3 (ptCells c.A)) (ve : Rd w ev ne 3 (ptCells c.E))
    (h0 : (0 < np)) (h1 : ¬ (np ≤ 32)) :
    Calls Try.prog 28 #[corV pv av ev c.r] w fun e w' => e = .returned (.bool false) ∧ Below w.heap.size w w' := by
  obtain ⟨ap, cp, rfl, p1, p2⟩ := vp.shape
  obtain ⟨aa, ca, rfl, a1, a2⟩ := va.shape
  obtain ⟨ae, ce, rfl, e1, e2⟩ := ve.shape
  have B0 : Below w.heap.size w (w.alloc (.cells #[.slice ap np cp, .slice aa na ca, .slice ae ne ce, .int .i64 c.r] 24)) := (Below.refl _ w).alloc (Nat.le_refl _) _
  have hbk := Blk.newAt (w := w) (b := w.heap.size) rfl 24 [.slice ap np cp, .slice aa na ca, .slice ae ne ce, .int .i64 c.r]
  have VP := Lib.hid vp
  have VA := Lib.hid va
  have VE := Lib.hid ve
  have LP := Lib.hid hp
  have LA := Lib.hid ha
  have LE := Lib.hid he
  clear vp va ve hp ha he
  have g0 : decide (0 < np) = true := decide_eq_true h0
  have g0I : decide ((np : Int) > 0) = true := decide_eq_true (by omega)
  have g1 : decide (np ≤ 32) = false := decide_eq_false h1
  have g1I : decide ((np : Int) ≤ 32) = false := decide_eq_false (by omega)
  go_enter Try.func28, Try.ntmps28
  go_upto_region 1 with (fail)
  obtain ⟨w1, hw1⟩ : ∃ w1, w.alloc (.cells #[.slice ap np cp, .slice aa na ca, .slice ae ne ce, .int .i64 c.r] 24) = w1 := ⟨_, rfl⟩
  change Code.wp _ _ _ _ (w.alloc (.cells #[.slice ap np cp, .slice aa na ca, .slice ae ne ce, .int .i64 c.r] 24))
  rw [hw1] at B0 ⊢
  rw [show w.alloc (.cells [Value.slice ap np cp, .slice aa na ca, .slice ae ne ce, .int .i64 c.r].toArray 24) = w1 from hw1] at hbk
  clear hw1
  have F0 : ∀ u : After w1, u.W.cell? ⟨w.heap.size, 0, none⟩ = some (.slice ap np cp) := fun u => (hbk.below u.h hbk.lt).cell 0
  have F1 : ∀ u : After w1, u.W.cell? ⟨w.heap.size, 1, none⟩ = some (.slice aa na ca) := fun u => (hbk.below u.h hbk.lt).cell 1
  have F2 : ∀ u : After w1, u.W.cell? ⟨w.heap.size, 2, none⟩ = some (.slice ae ne ce) := fun u => (hbk.below u.h hbk.lt).cell 2
  have F3 : ∀ u : After w1, u.W.cell? ⟨w.heap.size, 3, none⟩ = some (.int .i64 c.r) := fun u => (hbk.below u.h hbk.lt).cell 3
  have hs1 := B0.size
  have HB0 := Lib.hid B0
  clear hbk B0
  refine wp_region_after (by kernel_rfl) (by kernel_rfl) ?_
  repeat (go_big_quiet_step (fail))
  refine wpQuiet_nil ?_
  intro w9 hw9
  obtain ⟨u9, rfl⟩ := hw9
  have HBc := u9.h
  clear F0 F1 F2 F3
  go_wp2
  all_goals (go_ret; exact ⟨rfl, HB0.out.trans (HBc.mono hs1)⟩)
set_option maxRecDepth 100000 in
theorem may28_2 (pv av ev : Value) (np na ne : Nat) (c : Cor) (w : World) (hp : c.P.length = np) (ha : c.A.length = na) (he : c.E.length = ne) (vp : Rd w pv np 3 (ptCells c.P)) (va : Rd w av na 3 (ptCells c.A)) (ve : Rd w ev ne 3 (ptCells c.E))
    (h0 : (0 < np)) (h1 : (np ≤ 32)) (h2 : ¬ (na ≤ 128 ∧ ne ≤ 128)) :
    Calls Try.prog 28 #[corV pv av ev c.r] w fun e w' => e = .returned (.bool false) ∧ Below w.heap.size w w' := by
  obtain ⟨ap, cp, rfl, p1, p2⟩ := vp.shape
  obtain ⟨aa, ca, rfl, a1, a2⟩ := va.shape
  obtain ⟨ae, ce, rfl, e1, e2⟩ := ve.shape
  have B0 : Below w.heap.size w (w.alloc (.cells #[.slice ap np cp, .slice aa na ca, .slice ae ne ce, .int .i64 c.r] 24)) := (Below.refl _ w).alloc (Nat.le_refl _) _
  have hbk := Blk.newAt (w := w) (b := w.heap.size) rfl 24 [.slice ap np cp, .slice aa na ca, .slice ae ne ce, .int .i64 c.r]
  have VP := Lib.hid vp
  have VA := Lib.hid va
  have VE := Lib.hid ve
  have LP := Lib.hid hp
  have LA := Lib.hid ha
  have LE := Lib.hid he
  clear vp va ve hp ha he
  have g0 : decide (0 < np) = true := decide_eq_true h0
  have g0I : decide ((np : Int) > 0) = true := decide_eq_true (by omega)
  have g1 : decide (np ≤ 32) = true := decide_eq_true h1
  have g1I : decide ((np : Int) ≤ 32) = true := decide_eq_true (by omega)
  have g2 : decide ((if na < ne then (ne : Int) else (na : Int)) ≤ 128) = false := decide_eq_false (by split <;> omega)
  go_enter Try.func28, Try.ntmps28
  go_upto_region 1 with (fail)
  obtain ⟨w1, hw1⟩ : ∃ w1, w.alloc (.cells #[.slice ap np cp, .slice aa na ca, .slice ae ne ce, .int .i64 c.r] 24) = w1 := ⟨_, rfl⟩
  change Code.wp _ _ _ _ (w.alloc (.cells #[.slice ap np cp, .slice aa na ca, .slice ae ne ce, .int .i64 c.r] 24))
  rw [hw1] at B0 ⊢
  rw [show w.alloc (.cells [Value.slice ap np cp, .slice aa na ca, .slice ae ne ce, .int .i64 c.r].toArray 24) = w1 from hw1] at hbk
  clear hw1
  have F0 : ∀ u : After w1, u.W.cell? ⟨w.heap.size, 0, none⟩ = some (.slice ap np cp) := fun u => (hbk.below u.h hbk.lt).cell 0
  have F1 : ∀ u : After w1, u.W.cell? ⟨w.heap.size, 1, none⟩ = some (.slice aa na ca) := fun u => (hbk.below u.h hbk.lt).cell 1
  have F2 : ∀ u : After w1, u.W.cell? ⟨w.heap.size, 2, none⟩ = some (.slice ae ne ce) := fun u => (hbk.below u.h hbk.lt).cell 2
  have F3 : ∀ u : After w1, u.W.cell? ⟨w.heap.size, 3, none⟩ = some (.int .i64 c.r) := fun u => (hbk.below u.h hbk.lt).cell 3
  have hs1 := B0.size
  have HB0 := Lib.hid B0
  clear hbk B0
  refine wp_region_after (by kernel_rfl) (by kernel_rfl) ?_
  repeat (go_big_quiet_step (fail))
  refine wpQuiet_nil ?_
  intro w9 hw9
  obtain ⟨u9, rfl⟩ := hw9
  have HBc := u9.h
  clear F0 F1 F2 F3
  go_wp2
  all_goals (go_ret; exact ⟨rfl, HB0.out.trans (HBc.mono hs1)⟩)
set_option maxRecDepth 100000 in
theorem may28_3 (pv av ev : Value) (np na ne : Nat) (c : Cor) (w : World) (hp : c.P.length = np) (ha : c.A.length = na) (he : c.E.length = ne) (vp : Rd w pv np 3 (ptCells c.P)) (va : Rd w av na 3 (ptCells c.A)) (ve : Rd w ev ne 3 (ptCells c.E))
    (h0 : (0 < np)) (h1 : (np ≤ 32)) (h2 : (na ≤ 128 ∧ ne ≤ 128)) (h3 : ¬ (0 ≤ c.r)) :
    Calls Try.prog 28 #[corV pv av ev c.r] w fun e w' => e = .returned (.bool false) ∧ Below w.heap.size w w' := by
  obtain ⟨ap, cp, rfl, p1, p2⟩ := vp.shape
  obtain ⟨aa, ca, rfl, a1, a2⟩ := va.shape
  obtain ⟨ae, ce, rfl, e1, e2⟩ := ve.shape
  have B0 : Below w.heap.size w (w.alloc (.cells #[.slice ap np cp, .slice aa na ca, .slice ae ne ce, .int .i64 c.r] 24)) := (Below.refl _ w).alloc (Nat.le_refl _) _
  have hbk := Blk.newAt (w := w) (b := w.heap.size) rfl 24 [.slice ap np cp, .slice aa na ca, .slice ae ne ce, .int .i64 c.r]
  have VP := Lib.hid vp
  have VA := Lib.hid va
  have VE := Lib.hid ve
  have LP := Lib.hid hp
  have LA := Lib.hid ha
  have LE := Lib.hid he
  clear vp va ve hp ha he
  have g0 : decide (0 < np) = true := decide_eq_true h0
  have g0I : decide ((np : Int) > 0) = true := decide_eq_true (by omega)
  have g1 : decide (np ≤ 32) = true := decide_eq_true h1
  have g1I : decide ((np : Int) ≤ 32) = true := decide_eq_true (by omega)
  have g2 : decide ((if na < ne then (ne : Int) else (na : Int)) ≤ 128) = true := decide_eq_true (by split <;> omega)
  have g2naN : decide (na ≤ 128) = true := decide_eq_true (by omega)
  have g2naI : decide ((na : Int) ≤ 128) = true := decide_eq_true (by omega)
  have g2neN : decide (ne ≤ 128) = true := decide_eq_true (by omega)
  have g2neI : decide ((ne : Int) ≤ 128) = true := decide_eq_true (by omega)
  have g3 : decide (0 ≤ c.r) = false := decide_eq_false h3
  go_enter Try.func28, Try.ntmps28
  go_upto_region 1 with (fail)
  obtain ⟨w1, hw1⟩ : ∃ w1, w.alloc (.cells #[.slice ap np cp, .slice aa na ca, .slice ae ne ce, .int .i64 c.r] 24) = w1 := ⟨_, rfl⟩
  change Code.wp _ _ _ _ (w.alloc (.cells #[.slice ap np cp, .slice aa na ca, .slice ae ne ce, .int .i64 c.r] 24))
  rw [hw1] at B0 ⊢
  rw [show w.alloc (.cells [Value.slice ap np cp, .slice aa na ca, .slice ae ne ce, .int .i64 c.r].toArray 24) = w1 from hw1] at hbk
  clear hw1
  have F0 : ∀ u : After w1, u.W.cell? ⟨w.heap.size, 0, none⟩ = some (.slice ap np cp) := fun u => (hbk.below u.h hbk.lt).cell 0
  have F1 : ∀ u : After w1, u.W.cell? ⟨w.heap.size, 1, none⟩ = some (.slice aa na ca) := fun u => (hbk.below u.h hbk.lt).cell 1
  have F2 : ∀ u : After w1, u.W.cell? ⟨w.heap.size, 2, none⟩ = some (.slice ae ne ce) := fun u => (hbk.below u.h hbk.lt).cell 2
  have F3 : ∀ u : After w1, u.W.cell? ⟨w.heap.size, 3, none⟩ = some (.int .i64 c.r) := fun u => (hbk.below u.h hbk.lt).cell 3
  have hs1 := B0.size
  have HB0 := Lib.hid B0
  clear hbk B0
  refine wp_region_after (by kernel_rfl) (by kernel_rfl) ?_
  repeat (go_big_quiet_step (fail))
  refine wpQuiet_nil ?_
  intro w9 hw9
  obtain ⟨u9, rfl⟩ := hw9
  have HBc := u9.h
  clear F0 F1 F2 F3
  go_wp2
  all_goals (go_ret; exact ⟨rfl, HB0.out.trans (HBc.mono hs1)⟩)
set_option maxRecDepth 100000 in
theorem may28_4 (pv av ev : Value) (np na ne : Nat) (c : Cor) (w : World) (hp : c.P.length = np) (ha : c.A.length = na) (he : c.E.length = ne) (vp : Rd w pv np 3 (ptCells c.P)) (va : Rd w av na 3 (ptCells c.A)) (ve : Rd w ev ne 3 (ptCells c.E))
    (h0 : (0 < np)) (h1 : (np ≤ 32)) (h2 : (na ≤ 128 ∧ ne ≤ 128)) (h3 : (0 ≤ c.r)) (h4 : ¬ (c.r ≤ 65536)) :
    Calls Try.prog 28 #[corV pv av ev c.r] w fun e w' => e = .returned (.bool false) ∧ Below w.heap.size w w' := by
  obtain ⟨ap, cp, rfl, p1, p2⟩ := vp.shape
  obtain ⟨aa, ca, rfl, a1, a2⟩ := va.shape
  obtain ⟨ae, ce, rfl, e1, e2⟩ := ve.shape
  have B0 : Below w.heap.size w (w.alloc (.cells #[.slice ap np cp, .slice aa na ca, .slice ae ne ce, .int .i64 c.r] 24)) := (Below.refl _ w).alloc (Nat.le_refl _) _
  have hbk := Blk.newAt (w := w) (b := w.heap.size) rfl 24 [.slice ap np cp, .slice aa na ca, .slice ae ne ce, .int .i64 c.r]
  have VP := Lib.hid vp
  have VA := Lib.hid va
  have VE := Lib.hid ve
  have LP := Lib.hid hp
  have LA := Lib.hid ha
  have LE := Lib.hid he
  clear vp va ve hp ha he
  have g0 : decide (0 < np) = true := decide_eq_true h0
  have g0I : decide ((np : Int) > 0) = true := decide_eq_true (by omega)
  have g1 : decide (np ≤ 32) = true := decide_eq_true h1
  have g1I : decide ((np : Int) ≤ 32) = true := decide_eq_true (by omega)
  have g2 : decide ((if na < ne then (ne : Int) else (na : Int)) ≤ 128) = true := decide_eq_true (by split <;> omega)
  have g2naN : decide (na ≤ 128) = true := decide_eq_true (by omega)
  have g2naI : decide ((na : Int) ≤ 128) = true := decide_eq_true (by omega)
  have g2neN : decide (ne ≤ 128) = true := decide_eq_true (by omega)
  have g2neI : decide ((ne : Int) ≤ 128) = true := decide_eq_true (by omega)
  have g3 : decide (0 ≤ c.r) = true := decide_eq_true h3
  have g4 : decide (c.r ≤ 65536) = false := decide_eq_false h4
  go_enter Try.func28, Try.ntmps28
  go_upto_region 1 with (fail)
  obtain ⟨w1, hw1⟩ : ∃ w1, w.alloc (.cells #[.slice ap np cp, .slice aa na ca, .slice ae ne ce, .int .i64 c.r] 24) = w1 := ⟨_, rfl⟩
  change Code.wp _ _ _ _ (w.alloc (.cells #[.slice ap np cp, .slice aa na ca, .slice ae ne ce, .int .i64 c.r] 24))
  rw [hw1] at B0 ⊢
  rw [show w.alloc (.cells [Value.slice ap np cp, .slice aa na ca, .slice ae ne ce, .int .i64 c.r].toArray 24) = w1 from hw1] at hbk
  clear hw1
  have F0 : ∀ u : After w1, u.W.cell? ⟨w.heap.size, 0, none⟩ = some (.slice ap np cp) := fun u => (hbk.below u.h hbk.lt).cell 0
  have F1 : ∀ u : After w1, u.W.cell? ⟨w.heap.size, 1, none⟩ = some (.slice aa na ca) := fun u => (hbk.below u.h hbk.lt).cell 1
  have F2 : ∀ u : After w1, u.W.cell? ⟨w.heap.size, 2, none⟩ = some (.slice ae ne ce) := fun u => (hbk.below u.h hbk.lt).cell 2
  have F3 : ∀ u : After w1, u.W.cell? ⟨w.heap.size, 3, none⟩ = some (.int .i64 c.r) := fun u => (hbk.below u.h hbk.lt).cell 3
  have hs1 := B0.size
  have HB0 := Lib.hid B0
  clear hbk B0
  refine wp_region_after (by kernel_rfl) (by kernel_rfl) ?_
  repeat (go_big_quiet_step (fail))
  refine wpQuiet_nil ?_
  intro w9 hw9
  obtain ⟨u9, rfl⟩ := hw9
  have HBc := u9.h
  clear F0 F1 F2 F3
  go_wp2
  all_goals (go_ret; exact ⟨rfl, HB0.out.trans (HBc.mono hs1)⟩)
set_option maxRecDepth 100000 in
theorem may28_5 (pv av ev : Value) (np na ne : Nat) (c : Cor) (w : World) (hp : c.P.length = np) (ha : c.A.length = na) (he : c.E.length = ne) (vp : Rd w pv np 3 (ptCells c.P)) (va : Rd w av na 3 (ptCells c.A)) (ve : Rd w ev ne 3 (ptCells c.E))
    (h0 : (0 < np)) (h1 : (np ≤ 32)) (h2 : (na ≤ 128 ∧ ne ≤ 128)) (h3 : (0 ≤ c.r)) (h4 : (c.r ≤ 65536)) (h5 : c.P.all (nearB 16777216) = false) :
    Calls Try.prog 28 #[corV pv av ev c.r] w fun e w' => e = .returned (.bool false) ∧ Below w.heap.size w w' := by
  obtain ⟨ap, cp, rfl, p1, p2⟩ := vp.shape
  obtain ⟨aa, ca, rfl, a1, a2⟩ := va.shape
  obtain ⟨ae, ce, rfl, e1, e2⟩ := ve.shape
  have B0 : Below w.heap.size w (w.alloc (.cells #[.slice ap np cp, .slice aa na ca, .slice ae ne ce, .int .i64 c.r] 24)) := (Below.refl _ w).alloc (Nat.le_refl _) _
  have hbk := Blk.newAt (w := w) (b := w.heap.size) rfl 24 [.slice ap np cp, .slice aa na ca, .slice ae ne ce, .int .i64 c.r]
  have VP := Lib.hid vp
  have VA := Lib.hid va
  have VE := Lib.hid ve
  have LP := Lib.hid hp
  have LA := Lib.hid ha
  have LE := Lib.hid he
  clear vp va ve hp ha he
  have g0 : decide (0 < np) = true := decide_eq_true h0
  have g0I : decide ((np : Int) > 0) = true := decide_eq_true (by omega)
  have g1 : decide (np ≤ 32) = true := decide_eq_true h1
  have g1I : decide ((np : Int) ≤ 32) = true := decide_eq_true (by omega)
  have g2 : decide ((if na < ne then (ne : Int) else (na : Int)) ≤ 128) = true := decide_eq_true (by split <;> omega)
  have g2naN : decide (na ≤ 128) = true := decide_eq_true (by omega)
  have g2naI : decide ((na : Int) ≤ 128) = true := decide_eq_true (by omega)
  have g2neN : decide (ne ≤ 128) = true := decide_eq_true (by omega)
  have g2neI : decide ((ne : Int) ≤ 128) = true := decide_eq_true (by omega)
  have g3 : decide (0 ≤ c.r) = true := decide_eq_true h3
  have g4 : decide (c.r ≤ 65536) = true := decide_eq_true h4
  have H5 := Lib.hid h5
  clear h5
  rcases Decidable.em (na < ne) with hmx | hmx
  all_goals
    go_enter Try.func28, Try.ntmps28
    go_upto_region 1 with (fail)
    obtain ⟨w1, hw1⟩ : ∃ w1, w.alloc (.cells #[.slice ap np cp, .slice aa na ca, .slice ae ne ce, .int .i64 c.r] 24) = w1 := ⟨_, rfl⟩
    change Code.wp _ _ _ _ (w.alloc (.cells #[.slice ap np cp, .slice aa na ca, .slice ae ne ce, .int .i64 c.r] 24))
    rw [hw1] at B0 ⊢
    rw [show w.alloc (.cells [Value.slice ap np cp, .slice aa na ca, .slice ae ne ce, .int .i64 c.r].toArray 24) = w1 from hw1] at hbk
    clear hw1
    have HQ : Hid (∀ W, Below w1.heap.size w1 W → (fun W => W.cell? ⟨w.heap.size, 0, none⟩ = some (.slice ap np cp) ∧ W.cell? ⟨w.heap.size, 1, none⟩ = some (.slice aa na ca) ∧ W.cell? ⟨w.heap.size, 2, none⟩ = some (.slice ae ne ce) ∧ W.cell? ⟨w.heap.size, 3, none⟩ = some (.int .i64 c.r)) W) := Lib.hid fun W hW => by
      have h := hbk.below hW hbk.lt
      exact ⟨h.cell 0, h.cell 1, h.cell 2, h.cell 3⟩
    have HBc := (Below.refl w1.heap.size w1).drew
    have hs1 := B0.size
    have HB0 := Lib.hid B0
    clear hbk B0
    refine wp_region_held_drew (S := (fun W => W.cell? ⟨w.heap.size, 0, none⟩ = some (.slice ap np cp) ∧ W.cell? ⟨w.heap.size, 1, none⟩ = some (.slice aa na ca) ∧ W.cell? ⟨w.heap.size, 2, none⟩ = some (.slice ae ne ce) ∧ W.cell? ⟨w.heap.size, 3, none⟩ = some (.int .i64 c.r))) (by kernel_rfl) (by first | with_reducible exact HQ.out _ HBc | exact HQ.out _ HBc) (fun hHeld => ?_)
    refine held_take (i := 0) (v := ?_) rfl (by kernel_rfl) (by kernel_rfl) (by kernel_rfl) (fun _ _ _ h => h) (by rfl) ?_ (by assumption) ?_
    rotate_left
    · intro w hSw
      (try dsimp only at hSw)
      go_simp
      (try with_reducible rfl)
    try simp only [Act.put, List.setIfInBounds_toArray, List.set_cons_zero, List.set_cons_succ]
    refine held_take (i := 1) (v := ?_) rfl (by kernel_rfl) (by kernel_rfl) (by kernel_rfl) (fun _ _ _ h => h) (by rfl) ?_ (by assumption) ?_
    rotate_left
    · intro w hSw
      (try dsimp only at hSw)
      go_simp
      (try with_reducible rfl)
    try simp only [Act.put, List.setIfInBounds_toArray, List.set_cons_zero, List.set_cons_succ]
    refine held_take (i := 2) (v := ?_) rfl (by kernel_rfl) (by kernel_rfl) (by kernel_rfl) (fun _ _ _ h => h) (by rfl) ?_ (by assumption) ?_
    rotate_left
    · intro w hSw
      (try dsimp only at hSw)
      go_simp
      (try with_reducible rfl)
    try simp only [Act.put, List.setIfInBounds_toArray, List.set_cons_zero, List.set_cons_succ]
    refine held_take (i := 3) (v := ?_) rfl (by kernel_rfl) (by kernel_rfl) (by kernel_rfl) (fun _ _ _ h => h) (by rfl) ?_ (by assumption) ?_
    rotate_left
    · intro w hSw
      (try dsimp only at hSw)
      go_simp
      (try with_reducible rfl)
    try simp only [Act.put, List.setIfInBounds_toArray, List.set_cons_zero, List.set_cons_succ]
    refine held_take (i := 4) (v := ?_) rfl (by kernel_rfl) (by kernel_rfl) (by kernel_rfl) (fun _ _ _ h => h) (by rfl) ?_ (by assumption) ?_
    rotate_left
    · intro w hSw
      (try dsimp only at hSw)
      go_simp
      (try with_reducible rfl)
    try simp only [Act.put, List.setIfInBounds_toArray, List.set_cons_zero, List.set_cons_succ]
    refine held_take (i := 5) (v := ?_) rfl (by kernel_rfl) (by kernel_rfl) (by kernel_rfl) (fun _ _ _ h => h) (by rfl) ?_ (by assumption) ?_
    rotate_left
    · intro w hSw
      (try dsimp only at hSw)
      go_simp
      (try with_reducible rfl)
    try simp only [Act.put, List.setIfInBounds_toArray, List.set_cons_zero, List.set_cons_succ]
    refine held_take (i := 6) (v := ?_) rfl (by kernel_rfl) (by kernel_rfl) (by kernel_rfl) (fun _ _ _ h => h) (by rfl) ?_ (by assumption) ?_
    rotate_left
    · intro w hSw
      (try dsimp only at hSw)
      go_simp
      (try with_reducible rfl)
    try simp only [Act.put, List.setIfInBounds_toArray, List.set_cons_zero, List.set_cons_succ]
    refine held_take (i := 7) (v := ?_) rfl (by kernel_rfl) (by kernel_rfl) (by kernel_rfl) (fun _ _ _ h => h) (by rfl) ?_ (by assumption) ?_
    rotate_left
    · intro w hSw
      (try dsimp only at hSw)
      go_simp
      (try with_reducible rfl)
    try simp only [Act.put, List.setIfInBounds_toArray, List.set_cons_zero, List.set_cons_succ]
    refine held_take (i := 8) (v := ?_) rfl (by kernel_rfl) (by kernel_rfl) (by kernel_rfl) (fun _ _ _ h => h) (by rfl) ?_ (by assumption) ?_
    rotate_left
    · intro w hSw
      (try dsimp only at hSw)
      go_simp
      (try with_reducible rfl)
    try simp only [Act.put, List.setIfInBounds_toArray, List.set_cons_zero, List.set_cons_succ]
    refine held_take (i := 9) (v := ?_) rfl (by kernel_rfl) (by kernel_rfl) (by kernel_rfl) (fun _ _ _ h => h) (by rfl) ?_ (by assumption) ?_
    rotate_left
    · intro w hSw
      (try dsimp only at hSw)
      go_simp
      (try with_reducible rfl)
    try simp only [Act.put, List.setIfInBounds_toArray, List.set_cons_zero, List.set_cons_succ]
    refine held_take (i := 10) (v := ?_) rfl (by kernel_rfl) (by kernel_rfl) (by kernel_rfl) (fun _ _ _ h => h) (by rfl) ?_ (by assumption) ?_
    rotate_left
    · intro w hSw
      (try dsimp only at hSw)
      go_simp
      (try with_reducible rfl)
    try simp only [Act.put, List.setIfInBounds_toArray, List.set_cons_zero, List.set_cons_succ]
    refine held_take (i := 11) (v := ?_) rfl (by kernel_rfl) (by kernel_rfl) (by kernel_rfl) (fun _ _ _ h => h) (by rfl) ?_ (by assumption) ?_
    rotate_left
    · intro w hSw
      (try dsimp only at hSw)
      go_simp
      (try with_reducible rfl)
    try simp only [Act.put, List.setIfInBounds_toArray, List.set_cons_zero, List.set_cons_succ]
    refine held_take (i := 12) (v := ?_) rfl (by kernel_rfl) (by kernel_rfl) (by kernel_rfl) (fun _ _ _ h => h) (by rfl) ?_ (by assumption) ?_
    rotate_left
    · intro w hSw
      (try dsimp only at hSw)
      go_simp
      (try with_reducible rfl)
    try simp only [Act.put, List.setIfInBounds_toArray, List.set_cons_zero, List.set_cons_succ]
    refine held_take (i := 13) (v := ?_) rfl (by kernel_rfl) (by kernel_rfl) (by kernel_rfl) (fun _ _ _ h => h) (by rfl) ?_ (by assumption) ?_
    rotate_left
    · intro w hSw
      (try dsimp only at hSw)
      go_simp
      (try with_reducible rfl)
    try simp only [Act.put, List.setIfInBounds_toArray, List.set_cons_zero, List.set_cons_succ]
    refine held_take (i := 14) (v := ?_) rfl (by kernel_rfl) (by kernel_rfl) (by kernel_rfl) (fun _ _ _ h => h) (by rfl) ?_ (by assumption) ?_
    rotate_left
    · intro w hSw
      (try dsimp only at hSw)
      go_simp
      (try with_reducible rfl)
    try simp only [Act.put, List.setIfInBounds_toArray, List.set_cons_zero, List.set_cons_succ]
    refine held_take (i := 15) (v := ?_) rfl (by kernel_rfl) (by kernel_rfl) (by kernel_rfl) (fun _ _ _ h => h) (by rfl) ?_ (by assumption) ?_
    rotate_left
    · intro w hSw
      (try dsimp only at hSw)
      go_simp
      (try with_reducible rfl)
    try simp only [Act.put, List.setIfInBounds_toArray, List.set_cons_zero, List.set_cons_succ]
    refine held_take (i := 16) (v := ?_) rfl (by kernel_rfl) (by kernel_rfl) (by kernel_rfl) (fun _ _ _ h => h) (by rfl) ?_ (by assumption) ?_
    rotate_left
    · intro w hSw
      (try dsimp only at hSw)
      go_simp
      (try with_reducible rfl)
    try simp only [Act.put, List.setIfInBounds_toArray, List.set_cons_zero, List.set_cons_succ]
    refine held_take (i := 17) (v := ?_) rfl (by kernel_rfl) (by kernel_rfl) (by kernel_rfl) (fun _ _ _ h => h) (by rfl) ?_ (by assumption) ?_
    rotate_left
    · intro w hSw
      (try dsimp only at hSw)
      go_simp
      (try with_reducible rfl)
    try simp only [Act.put, List.setIfInBounds_toArray, List.set_cons_zero, List.set_cons_succ]
    refine held_take (i := 18) (v := ?_) rfl (by kernel_rfl) (by kernel_rfl) (by kernel_rfl) (fun _ _ _ h => h) (by rfl) ?_ (by assumption) ?_
    rotate_left
    · intro w hSw
      (try dsimp only at hSw)
      go_simp
      (try with_reducible rfl)
    try simp only [Act.put, List.setIfInBounds_toArray, List.set_cons_zero, List.set_cons_succ]
    refine held_take (i := 19) (v := ?_) rfl (by kernel_rfl) (by kernel_rfl) (by kernel_rfl) (fun _ _ _ h => h) (by rfl) ?_ (by assumption) ?_
    rotate_left
    · intro w hSw
      (try dsimp only at hSw)
      go_simp
      (try with_reducible rfl)
    try simp only [Act.put, List.setIfInBounds_toArray, List.set_cons_zero, List.set_cons_succ]
    refine held_take (i := 20) (v := ?_) rfl (by kernel_rfl) (by kernel_rfl) (by kernel_rfl) (fun _ _ _ h => h) (by rfl) ?_ (by assumption) ?_
    rotate_left
    · intro w hSw
      (try dsimp only at hSw)
      go_simp
      (try with_reducible rfl)
    try simp only [Act.put, List.setIfInBounds_toArray, List.set_cons_zero, List.set_cons_succ]
    refine held_take (i := 21) (v := ?_) rfl (by kernel_rfl) (by kernel_rfl) (by kernel_rfl) (fun _ _ _ h => h) (by rfl) ?_ (by assumption) ?_
    rotate_left
    · intro w hSw
      (try dsimp only at hSw)
      go_simp
      (try with_reducible rfl)
    try simp only [Act.put, List.setIfInBounds_toArray, List.set_cons_zero, List.set_cons_succ]
    refine held_take (i := 22) (v := ?_) rfl (by kernel_rfl) (by kernel_rfl) (by kernel_rfl) (fun _ _ _ h => h) (by rfl) ?_ (by assumption) ?_
    rotate_left
    · intro w hSw
      (try dsimp only at hSw)
      go_simp
      (try with_reducible rfl)
    try simp only [Act.put, List.setIfInBounds_toArray, List.set_cons_zero, List.set_cons_succ]
    refine held_take (i := 23) (v := ?_) rfl (by kernel_rfl) (by kernel_rfl) (by kernel_rfl) (fun _ _ _ h => h) (by rfl) ?_ (by assumption) ?_
    rotate_left
    · intro w hSw
      (try dsimp only at hSw)
      go_simp
      (try with_reducible rfl)
    try simp only [Act.put, List.setIfInBounds_toArray, List.set_cons_zero, List.set_cons_succ]
    refine held_take (i := 24) (v := ?_) rfl (by kernel_rfl) (by kernel_rfl) (by kernel_rfl) (fun _ _ _ h => h) (by rfl) ?_ (by assumption) ?_
    rotate_left
    · intro w hSw
      (try dsimp only at hSw)
      go_simp
      (try with_reducible rfl)
    try simp only [Act.put, List.setIfInBounds_toArray, List.set_cons_zero, List.set_cons_succ]
    refine held_take (i := 25) (v := ?_) rfl (by kernel_rfl) (by kernel_rfl) (by kernel_rfl) (fun _ _ _ h => h) (by rfl) ?_ (by assumption) ?_
    rotate_left
    · intro w hSw
      (try dsimp only at hSw)
      go_simp
      (try with_reducible rfl)
    try simp only [Act.put, List.setIfInBounds_toArray, List.set_cons_zero, List.set_cons_succ]
    refine held_take (i := 26) (v := ?_) rfl (by kernel_rfl) (by kernel_rfl) (by kernel_rfl) (fun _ _ _ h => h) (by rfl) ?_ (by assumption) ?_
    rotate_left
    · intro w hSw
      (try dsimp only at hSw)
      go_simp
      (try with_reducible rfl)
    try simp only [Act.put, List.setIfInBounds_toArray, List.set_cons_zero, List.set_cons_succ]
    refine held_take (i := 27) (v := ?_) rfl (by kernel_rfl) (by kernel_rfl) (by kernel_rfl) (fun _ _ _ h => h) (by rfl) ?_ (by assumption) ?_
    rotate_left
    · intro w hSw
      (try dsimp only at hSw)
      go_simp
      (try with_reducible rfl)
    try simp only [Act.put, List.setIfInBounds_toArray, List.set_cons_zero, List.set_cons_succ]
    refine held_take (i := 28) (v := ?_) rfl (by kernel_rfl) (by kernel_rfl) (by kernel_rfl) (fun _ _ _ h => h) (by rfl) ?_ (by assumption) ?_
    rotate_left
    · intro w hSw
      (try dsimp only at hSw)
      go_simp
      (try with_reducible rfl)
    try simp only [Act.put, List.setIfInBounds_toArray, List.set_cons_zero, List.set_cons_succ]
    refine held_take (i := 29) (v := ?_) rfl (by kernel_rfl) (by kernel_rfl) (by kernel_rfl) (fun _ _ _ h => h) (by rfl) ?_ (by assumption) ?_
    rotate_left
    · intro w hSw
      (try dsimp only at hSw)
      go_simp
      (try with_reducible rfl)
    try simp only [Act.put, List.setIfInBounds_toArray, List.set_cons_zero, List.set_cons_succ]
    refine held_take (i := 30) (v := ?_) rfl (by kernel_rfl) (by kernel_rfl) (by kernel_rfl) (fun _ _ _ h => h) (by rfl) ?_ (by assumption) ?_
    rotate_left
    · intro w hSw
      (try dsimp only at hSw)
      go_simp
      (try with_reducible rfl)
    try simp only [Act.put, List.setIfInBounds_toArray, List.set_cons_zero, List.set_cons_succ]
    refine held_take (i := 31) (v := ?_) rfl (by kernel_rfl) (by kernel_rfl) (by kernel_rfl) (fun _ _ _ h => h) (by rfl) ?_ (by assumption) ?_
    rotate_left
    · intro w hSw
      (try dsimp only at hSw)
      go_simp
      (try with_reducible rfl)
    try simp only [Act.put, List.setIfInBounds_toArray, List.set_cons_zero, List.set_cons_succ]
    refine held_take (i := 32) (v := ?_) rfl (by kernel_rfl) (by kernel_rfl) (by kernel_rfl) (fun _ _ _ h => h) (by rfl) ?_ (by assumption) ?_
    rotate_left
    · intro w hSw
      (try dsimp only at hSw)
      go_simp
      (try with_reducible rfl)
    try simp only [Act.put, List.setIfInBounds_toArray, List.set_cons_zero, List.set_cons_succ]
    refine wpAnyH_ready (rs := [33]) (by kernel_rfl) (by simp) ?_
    refine held_call rfl (fun K hK => ?_)
    go_simp
    go_at_call 33
    refine (beyond33_new 16777216 _).mono ?_
    rintro e wn ⟨⟨bk, rfl, hbn⟩, hBn⟩
    replace HBc := HBc.trans (hBn.mono HBc.size)
    clear hBn
    go_wp2_with fail
    refine hK.out _ _ (by first | with_reducible exact HQ.out _ HBc | exact HQ.out _ HBc) (fun hH2 => ?_)
    clear hK K hHeld
    have hHeld := hH2
    clear hH2
    try simp only [Act.put, List.setIfInBounds_toArray, List.set_cons_zero, List.set_cons_succ]
    refine wpAnyH_ready (rs := [34]) (by kernel_rfl) (by simp) ?_
    refine held_call rfl (fun K hK => ?_)
    go_simp
    go_at_call 35
    refine (contains35_any (.slice ap np cp) np c.P 16777216 _ _ LP.out ((VP.out.new HB0.out).new HBc) (by decide) (by decide) hbn).mono ?_
    rintro e wm ⟨rfl, hBm⟩
    rw [H5.out]
    replace HBc := HBc.trans (hBm.mono HBc.size)
    clear hBm hbn
    go_wp2_with fail
    refine hK.out _ _ (by first | with_reducible exact HQ.out _ HBc | exact HQ.out _ HBc) (fun hH2 => ?_)
    clear hK K hHeld
    have hHeld := hH2
    clear hH2
    try simp only [Act.put, List.setIfInBounds_toArray, List.set_cons_zero, List.set_cons_succ]
    refine held_take (i := 35) (v := ?_) rfl (by kernel_rfl) (by kernel_rfl) (by kernel_rfl) (fun _ _ _ h => h) (by rfl) ?_ (by assumption) ?_
    rotate_left
    · intro w hSw
      (try dsimp only at hSw)
      go_simp
      (try with_reducible rfl)
    try simp only [Act.put, List.setIfInBounds_toArray, List.set_cons_zero, List.set_cons_succ]
    refine held_take (i := 36) (v := ?_) rfl (by kernel_rfl) (by kernel_rfl) (by kernel_rfl) (fun _ _ _ h => h) (by rfl) ?_ (by assumption) ?_
    rotate_left
    · intro w hSw
      (try dsimp only at hSw)
      go_simp
      (try with_reducible rfl)
    try simp only [Act.put, List.setIfInBounds_toArray, List.set_cons_zero, List.set_cons_succ]
    refine held_take (i := 37) (v := ?_) rfl (by kernel_rfl) (by kernel_rfl) (by kernel_rfl) (fun _ _ _ h => h) (by rfl) ?_ (by assumption) ?_
    rotate_left
    · intro w hSw
      (try dsimp only at hSw)
      go_simp
      (try with_reducible rfl)
    try simp only [Act.put, List.setIfInBounds_toArray, List.set_cons_zero, List.set_cons_succ]
    refine held_skip (i := 38) rfl (by kernel_rfl) (by kernel_rfl) (by kernel_rfl) (fun _ _ _ h => h) (by rfl) (by assumption) ?_
    try simp only [Act.put, List.setIfInBounds_toArray, List.set_cons_zero, List.set_cons_succ]
    refine held_skip (i := 39) rfl (by kernel_rfl) (by kernel_rfl) (by kernel_rfl) (fun _ _ _ h => h) (by rfl) (by assumption) ?_
    try simp only [Act.put, List.setIfInBounds_toArray, List.set_cons_zero, List.set_cons_succ]
    refine held_skip (i := 40) rfl (by kernel_rfl) (by kernel_rfl) (by kernel_rfl) (fun _ _ _ h => h) (by rfl) (by assumption) ?_
    try simp only [Act.put, List.setIfInBounds_toArray, List.set_cons_zero, List.set_cons_succ]
    refine held_skip (i := 41) rfl (by kernel_rfl) (by kernel_rfl) (by kernel_rfl) (fun _ _ _ h => h) (by rfl) (by assumption) ?_
    try simp only [Act.put, List.setIfInBounds_toArray, List.set_cons_zero, List.set_cons_succ]
    refine held_skip (i := 42) rfl (by kernel_rfl) (by kernel_rfl) (by kernel_rfl) (fun _ _ _ h => h) (by rfl) (by assumption) ?_
    try simp only [Act.put, List.setIfInBounds_toArray, List.set_cons_zero, List.set_cons_succ]
    refine held_take (i := 43) (v := ?_) rfl (by kernel_rfl) (by kernel_rfl) (by kernel_rfl) (fun _ _ _ h => h) (by rfl) ?_ (by assumption) ?_
    rotate_left
    · intro w hSw
      (try dsimp only at hSw)
      go_simp
      (try with_reducible rfl)
    try simp only [Act.put, List.setIfInBounds_toArray, List.set_cons_zero, List.set_cons_succ]
    refine held_take (i := 44) (v := ?_) rfl (by kernel_rfl) (by kernel_rfl) (by kernel_rfl) (fun _ _ _ h => h) (by rfl) ?_ (by assumption) ?_
    rotate_left
    · intro w hSw
      (try dsimp only at hSw)
      go_simp
      (try with_reducible rfl)
    try simp only [Act.put, List.setIfInBounds_toArray, List.set_cons_zero, List.set_cons_succ]
    refine held_skip (i := 45) rfl (by kernel_rfl) (by kernel_rfl) (by kernel_rfl) (fun _ _ _ h => h) (by rfl) (by assumption) ?_
    try simp only [Act.put, List.setIfInBounds_toArray, List.set_cons_zero, List.set_cons_succ]
    refine held_skip (i := 46) rfl (by kernel_rfl) (by kernel_rfl) (by kernel_rfl) (fun _ _ _ h => h) (by rfl) (by assumption) ?_
    try simp only [Act.put, List.setIfInBounds_toArray, List.set_cons_zero, List.set_cons_succ]
    refine held_skip (i := 47) rfl (by kernel_rfl) (by kernel_rfl) (by kernel_rfl) (fun _ _ _ h => h) (by rfl) (by assumption) ?_
    try simp only [Act.put, List.setIfInBounds_toArray, List.set_cons_zero, List.set_cons_succ]
    refine held_skip (i := 48) rfl (by kernel_rfl) (by kernel_rfl) (by kernel_rfl) (fun _ _ _ h => h) (by rfl) (by assumption) ?_
    try simp only [Act.put, List.setIfInBounds_toArray, List.set_cons_zero, List.set_cons_succ]
    refine held_skip (i := 49) rfl (by kernel_rfl) (by kernel_rfl) (by kernel_rfl) (fun _ _ _ h => h) (by rfl) (by assumption) ?_
    try simp only [Act.put, List.setIfInBounds_toArray, List.set_cons_zero, List.set_cons_succ]
    refine held_take (i := 50) (v := ?_) rfl (by kernel_rfl) (by kernel_rfl) (by kernel_rfl) (fun _ _ _ h => h) (by rfl) ?_ (by assumption) ?_
    rotate_left
    · intro w hSw
      (try dsimp only at hSw)
      go_simp
      (try with_reducible rfl)
    try simp only [Act.put, List.setIfInBounds_toArray, List.set_cons_zero, List.set_cons_succ]
    refine held_take (i := 51) (v := ?_) rfl (by kernel_rfl) (by kernel_rfl) (by kernel_rfl) (fun _ _ _ h => h) (by rfl) ?_ (by assumption) ?_
    rotate_left
    · intro w hSw
      (try dsimp only at hSw)
      go_simp
      (try with_reducible rfl)
    try simp only [Act.put, List.setIfInBounds_toArray, List.set_cons_zero, List.set_cons_succ]
    refine wpAnyH_done (by kernel_rfl) ?_ _
    go_wp2
    all_goals (go_ret; exact ⟨rfl, HB0.out.trans (HBc.mono hs1)⟩)
set_option maxRecDepth 100000 in
theorem may28_6 (pv av ev : Value) (np na ne : Nat) (c : Cor) (w : World) (hp : c.P.length = np) (ha : c.A.length = na) (he : c.E.length = ne) (vp : Rd w pv np 3 (ptCells c.P)) (va : Rd w av na 3 (ptCells c.A)) (ve : Rd w ev ne 3 (ptCells c.E))
    (h0 : (0 < np)) (h1 : (np ≤ 32)) (h2 : (na ≤ 128 ∧ ne ≤ 128)) (h3 : (0 ≤ c.r)) (h4 : (c.r ≤ 65536)) (h5 : c.P.all (nearB 16777216) = true) (h6 : c.A.all (nearB 1048576) = false) :
    Calls Try.prog 28 #[corV pv av ev c.r] w fun e w' => e = .returned (.bool false) ∧ Below w.heap.size w w' := by
  obtain ⟨ap, cp, rfl, p1, p2⟩ := vp.shape
  obtain ⟨aa, ca, rfl, a1, a2⟩ := va.shape
  obtain ⟨ae, ce, rfl, e1, e2⟩ := ve.shape
  have B0 : Below w.heap.size w (w.alloc (.cells #[.slice ap np cp, .slice aa na ca, .slice ae ne ce, .int .i64 c.r] 24)) := (Below.refl _ w).alloc (Nat.le_refl _) _
  have hbk := Blk.newAt (w := w) (b := w.heap.size) rfl 24 [.slice ap np cp, .slice aa na ca, .slice ae ne ce, .int .i64 c.r]
  have VP := Lib.hid vp
  have VA := Lib.hid va
  have VE := Lib.hid ve
  have LP := Lib.hid hp
  have LA := Lib.hid ha
  have LE := Lib.hid he
  clear vp va ve hp ha he
  have g0 : decide (0 < np) = true := decide_eq_true h0
  have g0I : decide ((np : Int) > 0) = true := decide_eq_true (by omega)
  have g1 : decide (np ≤ 32) = true := decide_eq_true h1
  have g1I : decide ((np : Int) ≤ 32) = true := decide_eq_true (by omega)
  have g2 : decide ((if na < ne then (ne : Int) else (na : Int)) ≤ 128) = true := decide_eq_true (by split <;> omega)
  have g2naN : decide (na ≤ 128) = true := decide_eq_true (by omega)
  have g2naI : decide ((na : Int) ≤ 128) = true := decide_eq_true (by omega)
  have g2neN : decide (ne ≤ 128) = true := decide_eq_true (by omega)
  have g2neI : decide ((ne : Int) ≤ 128) = true := decide_eq_true (by omega)
  have g3 : decide (0 ≤ c.r) = true := decide_eq_true h3
  have g4 : decide (c.r ≤ 65536) = true := decide_eq_true h4
  have H5 := Lib.hid h5
  have H6 := Lib.hid h6
  clear h5 h6
  rcases Decidable.em (na < ne) with hmx | hmx
  all_goals
    go_enter Try.func28, Try.ntmps28
    go_upto_region 1 with (fail)
    obtain ⟨w1, hw1⟩ : ∃ w1, w.alloc (.cells #[.slice ap np cp, .slice aa na ca, .slice ae ne ce, .int .i64 c.r] 24) = w1 := ⟨_, rfl⟩
    change Code.wp _ _ _ _ (w.alloc (.cells #[.slice ap np cp, .slice aa na ca, .slice ae ne ce, .int .i64 c.r] 24))
    rw [hw1] at B0 ⊢
    rw [show w.alloc (.cells [Value.slice ap np cp, .slice aa na ca, .slice ae ne ce, .int .i64 c.r].toArray 24) = w1 from hw1] at hbk
    clear hw1
    have HQ : Hid (∀ W, Below w1.heap.size w1 W → (fun W => W.cell? ⟨w.heap.size, 0, none⟩ = some (.slice ap np cp) ∧ W.cell? ⟨w.heap.size, 1, none⟩ = some (.slice aa na ca) ∧ W.cell? ⟨w.heap.size, 2, none⟩ = some (.slice ae ne ce) ∧ W.cell? ⟨w.heap.size, 3, none⟩ = some (.int .i64 c.r)) W) := Lib.hid fun W hW => by
      have h := hbk.below hW hbk.lt
      exact ⟨h.cell 0, h.cell 1, h.cell 2, h.cell 3⟩
    have HBc := (Below.refl w1.heap.size w1).drew
    have hs1 := B0.size
    have HB0 := Lib.hid B0
    clear hbk B0
    refine wp_region_held_drew (S := (fun W => W.cell? ⟨w.heap.size, 0, none⟩ = some (.slice ap np cp) ∧ W.cell? ⟨w.heap.size, 1, none⟩ = some (.slice aa na ca) ∧ W.cell? ⟨w.heap.size, 2, none⟩ = some (.slice ae ne ce) ∧ W.cell? ⟨w.heap.size, 3, none⟩ = some (.int .i64 c.r))) (by kernel_rfl) (by first | with_reducible exact HQ.out _ HBc | exact HQ.out _ HBc) (fun hHeld => ?_)
    refine held_take (i := 0) (v := ?_) rfl (by kernel_rfl) (by kernel_rfl) (by kernel_rfl) (fun _ _ _ h => h) (by rfl) ?_ (by assumption) ?_
    rotate_left
    · intro w hSw
      (try dsimp only at hSw)
      go_simp
      (try with_reducible rfl)
    try simp only [Act.put, List.setIfInBounds_toArray, List.set_cons_zero, List.set_cons_succ]
    refine held_take (i := 1) (v := ?_) rfl (by kernel_rfl) (by kernel_rfl) (by kernel_rfl) (fun _ _ _ h => h) (by rfl) ?_ (by assumption) ?_
    rotate_left
    · intro w hSw
      (try dsimp only at hSw)
      go_simp
      (try with_reducible rfl)
    try simp only [Act.put, List.setIfInBounds_toArray, List.set_cons_zero, List.set_cons_succ]
    refine held_take (i := 2) (v := ?_) rfl (by kernel_rfl) (by kernel_rfl) (by kernel_rfl) (fun _ _ _ h => h) (by rfl) ?_ (by assumption) ?_
    rotate_left
    · intro w hSw
      (try dsimp only at hSw)
      go_simp
      (try with_reducible rfl)
    try simp only [Act.put, List.setIfInBounds_toArray, List.set_cons_zero, List.set_cons_succ]
    refine held_take (i := 3) (v := ?_) rfl (by kernel_rfl) (by kernel_rfl) (by kernel_rfl) (fun _ _ _ h => h) (by rfl) ?_ (by assumption) ?_
    rotate_left
    · intro w hSw
      (try dsimp only at hSw)
      go_simp
      (try with_reducible rfl)
    try simp only [Act.put, List.setIfInBounds_toArray, List.set_cons_zero, List.set_cons_succ]
    refine held_take (i := 4) (v := ?_) rfl (by kernel_rfl) (by kernel_rfl) (by kernel_rfl) (fun _ _ _ h => h) (by rfl) ?_ (by assumption) ?_
    rotate_left
    · intro w hSw
      (try dsimp only at hSw)
      go_simp
      (try with_reducible rfl)
    try simp only [Act.put, List.setIfInBounds_toArray, List.set_cons_zero, List.set_cons_succ]
    refine held_take (i := 5) (v := ?_) rfl (by kernel_rfl) (by kernel_rfl) (by kernel_rfl) (fun _ _ _ h => h) (by rfl) ?_ (by assumption) ?_
    rotate_left
    · intro w hSw
      (try dsimp only at hSw)
      go_simp
      (try with_reducible rfl)
    try simp only [Act.put, List.setIfInBounds_toArray, List.set_cons_zero, List.set_cons_succ]
    refine held_take (i := 6) (v := ?_) rfl (by kernel_rfl) (by kernel_rfl) (by kernel_rfl) (fun _ _ _ h => h) (by rfl) ?_ (by assumption) ?_
    rotate_left
    · intro w hSw
      (try dsimp only at hSw)
      go_simp
      (try with_reducible rfl)
    try simp only [Act.put, List.setIfInBounds_toArray, List.set_cons_zero, List.set_cons_succ]
    refine held_take (i := 7) (v := ?_) rfl (by kernel_rfl) (by kernel_rfl) (by kernel_rfl) (fun _ _ _ h => h) (by rfl) ?_ (by assumption) ?_
    rotate_left
    · intro w hSw
      (try dsimp only at hSw)
      go_simp
      (try with_reducible rfl)
    try simp only [Act.put, List.setIfInBounds_toArray, List.set_cons_zero, List.set_cons_succ]
    refine held_take (i := 8) (v := ?_) rfl (by kernel_rfl) (by kernel_rfl) (by kernel_rfl) (fun _ _ _ h => h) (by rfl) ?_ (by assumption) ?_
    rotate_left
    · intro w hSw
      (try dsimp only at hSw)
      go_simp
      (try with_reducible rfl)
    try simp only [Act.put, List.setIfInBounds_toArray, List.set_cons_zero, List.set_cons_succ]
    refine held_take (i := 9) (v := ?_) rfl (by kernel_rfl) (by kernel_rfl) (by kernel_rfl) (fun _ _ _ h => h) (by rfl) ?_ (by assumption) ?_
    rotate_left
    · intro w hSw
      (try dsimp only at hSw)
      go_simp
      (try with_reducible rfl)
    try simp only [Act.put, List.setIfInBounds_toArray, List.set_cons_zero, List.set_cons_succ]
    refine held_take (i := 10) (v := ?_) rfl (by kernel_rfl) (by kernel_rfl) (by kernel_rfl) (fun _ _ _ h => h) (by rfl) ?_ (by assumption) ?_
    rotate_left
    · intro w hSw
      (try dsimp only at hSw)
      go_simp
      (try with_reducible rfl)
    try simp only [Act.put, List.setIfInBounds_toArray, List.set_cons_zero, List.set_cons_succ]
    refine held_take (i := 11) (v := ?_) rfl (by kernel_rfl) (by kernel_rfl) (by kernel_rfl) (fun _ _ _ h => h) (by rfl) ?_ (by assumption) ?_
    rotate_left
    · intro w hSw
      (try dsimp only at hSw)
      go_simp
      (try with_reducible rfl)
    try simp only [Act.put, List.setIfInBounds_toArray, List.set_cons_zero, List.set_cons_succ]
    refine held_take (i := 12) (v := ?_) rfl (by kernel_rfl) (by kernel_rfl) (by kernel_rfl) (fun _ _ _ h => h) (by rfl) ?_ (by assumption) ?_
    rotate_left
    · intro w hSw
      (try dsimp only at hSw)
      go_simp
      (try with_reducible rfl)
    try simp only [Act.put, List.setIfInBounds_toArray, List.set_cons_zero, List.set_cons_succ]
    refine held_take (i := 13) (v := ?_) rfl (by kernel_rfl) (by kernel_rfl) (by kernel_rfl) (fun _ _ _ h => h) (by rfl) ?_ (by assumption) ?_
    rotate_left
    · intro w hSw
      (try dsimp only at hSw)
      go_simp
      (try with_reducible rfl)
    try simp only [Act.put, List.setIfInBounds_toArray, List.set_cons_zero, List.set_cons_succ]
    refine held_take (i := 14) (v := ?_) rfl (by kernel_rfl) (by kernel_rfl) (by kernel_rfl) (fun _ _ _ h => h) (by rfl) ?_ (by assumption) ?_
    rotate_left
    · intro w hSw
      (try dsimp only at hSw)
      go_simp
      (try with_reducible rfl)
    try simp only [Act.put, List.setIfInBounds_toArray, List.set_cons_zero, List.set_cons_succ]
    refine held_take (i := 15) (v := ?_) rfl (by kernel_rfl) (by kernel_rfl) (by kernel_rfl) (fun _ _ _ h => h) (by rfl) ?_ (by assumption) ?_
    rotate_left
    · intro w hSw
      (try dsimp only at hSw)
      go_simp
      (try with_reducible rfl)
    try simp only [Act.put, List.setIfInBounds_toArray, List.set_cons_zero, List.set_cons_succ]
    refine held_take (i := 16) (v := ?_) rfl (by kernel_rfl) (by kernel_rfl) (by kernel_rfl) (fun _ _ _ h => h) (by rfl) ?_ (by assumption) ?_
    rotate_left
    · intro w hSw
      (try dsimp only at hSw)
      go_simp
      (try with_reducible rfl)
    try simp only [Act.put, List.setIfInBounds_toArray, List.set_cons_zero, List.set_cons_succ]
    refine held_take (i := 17) (v := ?_) rfl (by kernel_rfl) (by kernel_rfl) (by kernel_rfl) (fun _ _ _ h => h) (by rfl) ?_ (by assumption) ?_
    rotate_left
    · intro w hSw
      (try dsimp only at hSw)
      go_simp
      (try with_reducible rfl)
    try simp only [Act.put, List.setIfInBounds_toArray, List.set_cons_zero, List.set_cons_succ]
    refine held_take (i := 18) (v := ?_) rfl (by kernel_rfl) (by kernel_rfl) (by kernel_rfl) (fun _ _ _ h => h) (by rfl) ?_ (by assumption) ?_
    rotate_left
    · intro w hSw
      (try dsimp only at hSw)
      go_simp
      (try with_reducible rfl)
    try simp only [Act.put, List.setIfInBounds_toArray, List.set_cons_zero, List.set_cons_succ]
    refine held_take (i := 19) (v := ?_) rfl (by kernel_rfl) (by kernel_rfl) (by kernel_rfl) (fun _ _ _ h => h) (by rfl) ?_ (by assumption) ?_
    rotate_left
    · intro w hSw
      (try dsimp only at hSw)
      go_simp
      (try with_reducible rfl)
    try simp only [Act.put, List.setIfInBounds_toArray, List.set_cons_zero, List.set_cons_succ]
    refine held_take (i := 20) (v := ?_) rfl (by kernel_rfl) (by kernel_rfl) (by kernel_rfl) (fun _ _ _ h => h) (by rfl) ?_ (by assumption) ?_
    rotate_left
    · intro w hSw
      (try dsimp only at hSw)
      go_simp
      (try with_reducible rfl)
    try simp only [Act.put, List.setIfInBounds_toArray, List.set_cons_zero, List.set_cons_succ]
    refine held_take (i := 21) (v := ?_) rfl (by kernel_rfl) (by kernel_rfl) (by kernel_rfl) (fun _ _ _ h => h) (by rfl) ?_ (by assumption) ?_
    rotate_left
    · intro w hSw
      (try dsimp only at hSw)
      go_simp
      (try with_reducible rfl)
    try simp only [Act.put, List.setIfInBounds_toArray, List.set_cons_zero, List.set_cons_succ]
    refine held_take (i := 22) (v := ?_) rfl (by kernel_rfl) (by kernel_rfl) (by kernel_rfl) (fun _ _ _ h => h) (by rfl) ?_ (by assumption) ?_
    rotate_left
    · intro w hSw
      (try dsimp only at hSw)
      go_simp
      (try with_reducible rfl)
    try simp only [Act.put, List.setIfInBounds_toArray, List.set_cons_zero, List.set_cons_succ]
    refine held_take (i := 23) (v := ?_) rfl (by kernel_rfl) (by kernel_rfl) (by kernel_rfl) (fun _ _ _ h => h) (by rfl) ?_ (by assumption) ?_
    rotate_left
    · intro w hSw
      (try dsimp only at hSw)
      go_simp
      (try with_reducible rfl)
    try simp only [Act.put, List.setIfInBounds_toArray, List.set_cons_zero, List.set_cons_succ]
    refine held_take (i := 24) (v := ?_) rfl (by kernel_rfl) (by kernel_rfl) (by kernel_rfl) (fun _ _ _ h => h) (by rfl) ?_ (by assumption) ?_
    rotate_left
    · intro w hSw
      (try dsimp only at hSw)
      go_simp
      (try with_reducible rfl)
    try simp only [Act.put, List.setIfInBounds_toArray, List.set_cons_zero, List.set_cons_succ]
    refine held_take (i := 25) (v := ?_) rfl (by kernel_rfl) (by kernel_rfl) (by kernel_rfl) (fun _ _ _ h => h) (by rfl) ?_ (by assumption) ?_
    rotate_left
    · intro w hSw
      (try dsimp only at hSw)
      go_simp
      (try with_reducible rfl)
    try simp only [Act.put, List.setIfInBounds_toArray, List.set_cons_zero, List.set_cons_succ]
    refine held_take (i := 26) (v := ?_) rfl (by kernel_rfl) (by kernel_rfl) (by kernel_rfl) (fun _ _ _ h => h) (by rfl) ?_ (by assumption) ?_
    rotate_left
    · intro w hSw
      (try dsimp only at hSw)
      go_simp
      (try with_reducible rfl)
    try simp only [Act.put, List.setIfInBounds_toArray, List.set_cons_zero, List.set_cons_succ]
    refine held_take (i := 27) (v := ?_) rfl (by kernel_rfl) (by kernel_rfl) (by kernel_rfl) (fun _ _ _ h => h) (by rfl) ?_ (by assumption) ?_
    rotate_left
    · intro w hSw
      (try dsimp only at hSw)
      go_simp
      (try with_reducible rfl)
    try simp only [Act.put, List.setIfInBounds_toArray, List.set_cons_zero, List.set_cons_succ]
    refine held_take (i := 28) (v := ?_) rfl (by kernel_rfl) (by kernel_rfl) (by kernel_rfl) (fun _ _ _ h => h) (by rfl) ?_ (by assumption) ?_
    rotate_left
    · intro w hSw
      (try dsimp only at hSw)
      go_simp
      (try with_reducible rfl)
    try simp only [Act.put, List.setIfInBounds_toArray, List.set_cons_zero, List.set_cons_succ]
    refine held_take (i := 29) (v := ?_) rfl (by kernel_rfl) (by kernel_rfl) (by kernel_rfl) (fun _ _ _ h => h) (by rfl) ?_ (by assumption) ?_
    rotate_left
    · intro w hSw
      (try dsimp only at hSw)
      go_simp
      (try with_reducible rfl)
    try simp only [Act.put, List.setIfInBounds_toArray, List.set_cons_zero, List.set_cons_succ]
    refine held_take (i := 30) (v := ?_) rfl (by kernel_rfl) (by kernel_rfl) (by kernel_rfl) (fun _ _ _ h => h) (by rfl) ?_ (by assumption) ?_
    rotate_left
    · intro w hSw
      (try dsimp only at hSw)
      go_simp
      (try with_reducible rfl)
    try simp only [Act.put, List.setIfInBounds_toArray, List.set_cons_zero, List.set_cons_succ]
    refine held_take (i := 31) (v := ?_) rfl (by kernel_rfl) (by kernel_rfl) (by kernel_rfl) (fun _ _ _ h => h) (by rfl) ?_ (by assumption) ?_
    rotate_left
    · intro w hSw
      (try dsimp only at hSw)
      go_simp
      (try with_reducible rfl)
    try simp only [Act.put, List.setIfInBounds_toArray, List.set_cons_zero, List.set_cons_succ]
    refine held_take (i := 32) (v := ?_) rfl (by kernel_rfl) (by kernel_rfl) (by kernel_rfl) (fun _ _ _ h => h) (by rfl) ?_ (by assumption) ?_
    rotate_left
    · intro w hSw
      (try dsimp only at hSw)
      go_simp
      (try with_reducible rfl)
    try simp only [Act.put, List.setIfInBounds_toArray, List.set_cons_zero, List.set_cons_succ]
    refine wpAnyH_ready (rs := [33]) (by kernel_rfl) (by simp) ?_
    refine held_call rfl (fun K hK => ?_)
    go_simp
    go_at_call 33
    refine (beyond33_new 16777216 _).mono ?_
    rintro e wn ⟨⟨bk, rfl, hbn⟩, hBn⟩
    replace HBc := HBc.trans (hBn.mono HBc.size)
    clear hBn
    go_wp2_with fail
    refine hK.out _ _ (by first | with_reducible exact HQ.out _ HBc | exact HQ.out _ HBc) (fun hH2 => ?_)
    clear hK K hHeld
    have hHeld := hH2
    clear hH2
    try simp only [Act.put, List.setIfInBounds_toArray, List.set_cons_zero, List.set_cons_succ]
    refine wpAnyH_ready (rs := [34]) (by kernel_rfl) (by simp) ?_
    refine held_call rfl (fun K hK => ?_)
    go_simp
    go_at_call 35
    refine (contains35_any (.slice ap np cp) np c.P 16777216 _ _ LP.out ((VP.out.new HB0.out).new HBc) (by decide) (by decide) hbn).mono ?_
    rintro e wm ⟨rfl, hBm⟩
    rw [H5.out]
    replace HBc := HBc.trans (hBm.mono HBc.size)
    clear hBm hbn
    go_wp2_with fail
    refine hK.out _ _ (by first | with_reducible exact HQ.out _ HBc | exact HQ.out _ HBc) (fun hH2 => ?_)
    clear hK K hHeld
    have hHeld := hH2
    clear hH2
    try simp only [Act.put, List.setIfInBounds_toArray, List.set_cons_zero, List.set_cons_succ]
    refine held_take (i := 35) (v := ?_) rfl (by kernel_rfl) (by kernel_rfl) (by kernel_rfl) (fun _ _ _ h => h) (by rfl) ?_ (by assumption) ?_
    rotate_left
    · intro w hSw
      (try dsimp only at hSw)
      go_simp
      (try with_reducible rfl)
    try simp only [Act.put, List.setIfInBounds_toArray, List.set_cons_zero, List.set_cons_succ]
    refine held_take (i := 36) (v := ?_) rfl (by kernel_rfl) (by kernel_rfl) (by kernel_rfl) (fun _ _ _ h => h) (by rfl) ?_ (by assumption) ?_
    rotate_left
    · intro w hSw
      (try dsimp only at hSw)
      go_simp
      (try with_reducible rfl)
    try simp only [Act.put, List.setIfInBounds_toArray, List.set_cons_zero, List.set_cons_succ]
    refine held_take (i := 37) (v := ?_) rfl (by kernel_rfl) (by kernel_rfl) (by kernel_rfl) (fun _ _ _ h => h) (by rfl) ?_ (by assumption) ?_
    rotate_left
    · intro w hSw
      (try dsimp only at hSw)
      go_simp
      (try with_reducible rfl)
    try simp only [Act.put, List.setIfInBounds_toArray, List.set_cons_zero, List.set_cons_succ]
    refine held_take (i := 38) (v := ?_) rfl (by kernel_rfl) (by kernel_rfl) (by kernel_rfl) (fun _ _ _ h => h) (by rfl) ?_ (by assumption) ?_
    rotate_left
    · intro w hSw
      (try dsimp only at hSw)
      go_simp
      (try with_reducible rfl)
    try simp only [Act.put, List.setIfInBounds_toArray, List.set_cons_zero, List.set_cons_succ]
    refine held_take (i := 39) (v := ?_) rfl (by kernel_rfl) (by kernel_rfl) (by kernel_rfl) (fun _ _ _ h => h) (by rfl) ?_ (by assumption) ?_
    rotate_left
    · intro w hSw
      (try dsimp only at hSw)
      go_simp
      (try with_reducible rfl)
    try simp only [Act.put, List.setIfInBounds_toArray, List.set_cons_zero, List.set_cons_succ]
    refine wpAnyH_ready (rs := [40]) (by kernel_rfl) (by simp) ?_
    refine held_call rfl (fun K hK => ?_)
    go_simp
    go_at_call 33
    refine (beyond33_new 1048576 _).mono ?_
    rintro e wn ⟨⟨bk, rfl, hbn⟩, hBn⟩
    replace HBc := HBc.trans (hBn.mono HBc.size)
    clear hBn
    go_wp2_with fail
    refine hK.out _ _ (by first | with_reducible exact HQ.out _ HBc | exact HQ.out _ HBc) (fun hH2 => ?_)
    clear hK K hHeld
    have hHeld := hH2
    clear hH2
    try simp only [Act.put, List.setIfInBounds_toArray, List.set_cons_zero, List.set_cons_succ]
    refine wpAnyH_ready (rs := [41]) (by kernel_rfl) (by simp) ?_
    refine held_call rfl (fun K hK => ?_)
    go_simp
    go_at_call 35
    refine (contains35_any (.slice aa na ca) na c.A 1048576 _ _ LA.out ((VA.out.new HB0.out).new HBc) (by decide) (by decide) hbn).mono ?_
    rintro e wm ⟨rfl, hBm⟩
    rw [H6.out]
    replace HBc := HBc.trans (hBm.mono HBc.size)
    clear hBm hbn
    go_wp2_with fail
    refine hK.out _ _ (by first | with_reducible exact HQ.out _ HBc | exact HQ.out _ HBc) (fun hH2 => ?_)
    clear hK K hHeld
    have hHeld := hH2
    clear hH2
    try simp only [Act.put, List.setIfInBounds_toArray, List.set_cons_zero, List.set_cons_succ]
    refine held_take (i := 42) (v := ?_) rfl (by kernel_rfl) (by kernel_rfl) (by kernel_rfl) (fun _ _ _ h => h) (by rfl) ?_ (by assumption) ?_
    rotate_left
    · intro w hSw
      (try dsimp only at hSw)
      go_simp
      (try with_reducible rfl)
    try simp only [Act.put, List.setIfInBounds_toArray, List.set_cons_zero, List.set_cons_succ]
    refine held_take (i := 43) (v := ?_) rfl (by kernel_rfl) (by kernel_rfl) (by kernel_rfl) (fun _ _ _ h => h) (by rfl) ?_ (by assumption) ?_
    rotate_left
    · intro w hSw
      (try dsimp only at hSw)
      go_simp
      (try with_reducible rfl)
    try simp only [Act.put, List.setIfInBounds_toArray, List.set_cons_zero, List.set_cons_succ]
    refine held_take (i := 44) (v := ?_) rfl (by kernel_rfl) (by kernel_rfl) (by kernel_rfl) (fun _ _ _ h => h) (by rfl) ?_ (by assumption) ?_
    rotate_left
    · intro w hSw
      (try dsimp only at hSw)
      go_simp
      (try with_reducible rfl)
    try simp only [Act.put, List.setIfInBounds_toArray, List.set_cons_zero, List.set_cons_succ]
    refine held_skip (i := 45) rfl (by kernel_rfl) (by kernel_rfl) (by kernel_rfl) (fun _ _ _ h => h) (by rfl) (by assumption) ?_
    try simp only [Act.put, List.setIfInBounds_toArray, List.set_cons_zero, List.set_cons_succ]
    refine held_skip (i := 46) rfl (by kernel_rfl) (by kernel_rfl) (by kernel_rfl) (fun _ _ _ h => h) (by rfl) (by assumption) ?_
    try simp only [Act.put, List.setIfInBounds_toArray, List.set_cons_zero, List.set_cons_succ]
    refine held_skip (i := 47) rfl (by kernel_rfl) (by kernel_rfl) (by kernel_rfl) (fun _ _ _ h => h) (by rfl) (by assumption) ?_
    try simp only [Act.put, List.setIfInBounds_toArray, List.set_cons_zero, List.set_cons_succ]
    refine held_skip (i := 48) rfl (by kernel_rfl) (by kernel_rfl) (by kernel_rfl) (fun _ _ _ h => h) (by rfl) (by assumption) ?_
    try simp only [Act.put, List.setIfInBounds_toArray, List.set_cons_zero, List.set_cons_succ]
    refine held_skip (i := 49) rfl (by kernel_rfl) (by kernel_rfl) (by kernel_rfl) (fun _ _ _ h => h) (by rfl) (by assumption) ?_
    try simp only [Act.put, List.setIfInBounds_toArray, List.set_cons_zero, List.set_cons_succ]
    refine held_take (i := 50) (v := ?_) rfl (by kernel_rfl) (by kernel_rfl) (by kernel_rfl) (fun _ _ _ h => h) (by rfl) ?_ (by assumption) ?_
    rotate_left
    · intro w hSw
      (try dsimp only at hSw)
      go_simp
      (try with_reducible rfl)
    try simp only [Act.put, List.setIfInBounds_toArray, List.set_cons_zero, List.set_cons_succ]
    refine held_take (i := 51) (v := ?_) rfl (by kernel_rfl) (by kernel_rfl) (by kernel_rfl) (fun _ _ _ h => h) (by rfl) ?_ (by assumption) ?_
    rotate_left
    · intro w hSw
      (try dsimp only at hSw)
      go_simp
      (try with_reducible rfl)
    try simp only [Act.put, List.setIfInBounds_toArray, List.set_cons_zero, List.set_cons_succ]
    refine wpAnyH_done (by kernel_rfl) ?_ _
    go_wp2
    all_goals (go_ret; exact ⟨rfl, HB0.out.trans (HBc.mono hs1)⟩)
set_option maxRecDepth 100000 in
theorem may28_7 (pv av ev : Value) (np na ne : Nat) (c : Cor) (w : World) (hp : c.P.length = np) (ha : c.A.length = na) (he : c.E.length = ne) (vp : Rd w pv np 3 (ptCells c.P)) (va : Rd w av na 3 (ptCells c.A)) (ve : Rd w ev ne 3 (ptCells c.E))
    (h0 : (0 < np)) (h1 : (np ≤ 32)) (h2 : (na ≤ 128 ∧ ne ≤ 128)) (h3 : (0 ≤ c.r)) (h4 : (c.r ≤ 65536)) (h5 : c.P.all (nearB 16777216) = true) (h6 : c.A.all (nearB 1048576) = true) (h7 : c.E.all (nearB 1048576) = false) :
    Calls Try.prog 28 #[corV pv av ev c.r] w fun e w' => e = .returned (.bool false) ∧ Below w.heap.size w w' := by
  obtain ⟨ap, cp, rfl, p1, p2⟩ := vp.shape
  obtain ⟨aa, ca, rfl, a1, a2⟩ := va.shape
  obtain ⟨ae, ce, rfl, e1, e2⟩ := ve.shape
  have B0 : Below w.heap.size w (w.alloc (.cells #[.slice ap np cp, .slice aa na ca, .slice ae ne ce, .int .i64 c.r] 24)) := (Below.refl _ w).alloc (Nat.le_refl _) _
  have hbk := Blk.newAt (w := w) (b := w.heap.size) rfl 24 [.slice ap np cp, .slice aa na ca, .slice ae ne ce, .int .i64 c.r]
  have VP := Lib.hid vp
  have VA := Lib.hid va
  have VE := Lib.hid ve
  have LP := Lib.hid hp
  have LA := Lib.hid ha
  have LE := Lib.hid he
  clear vp va ve hp ha he
  have g0 : decide (0 < np) = true := decide_eq_true h0
  have g0I : decide ((np : Int) > 0) = true := decide_eq_true (by omega)
  have g1 : decide (np ≤ 32) = true := decide_eq_true h1
  have g1I : decide ((np : Int) ≤ 32) = true := decide_eq_true (by omega)
  have g2 : decide ((if na < ne then (ne : Int) else (na : Int)) ≤ 128) = true := decide_eq_true (by split <;> omega)
  have g2naN : decide (na ≤ 128) = true := decide_eq_true (by omega)
  have g2naI : decide ((na : Int) ≤ 128) = true := decide_eq_true (by omega)
  have g2neN : decide (ne ≤ 128) = true := decide_eq_true (by omega)
  have g2neI : decide ((ne : Int) ≤ 128) = true := decide_eq_true (by omega)
  have g3 : decide (0 ≤ c.r) = true := decide_eq_true h3
  have g4 : decide (c.r ≤ 65536) = true := decide_eq_true h4
  have H5 := Lib.hid h5
  have H6 := Lib.hid h6
  have H7 := Lib.hid h7
  clear h5 h6 h7
  rcases Decidable.em (na < ne) with hmx | hmx
  all_goals
    go_enter Try.func28, Try.ntmps28
    go_upto_region 1 with (fail)
    obtain ⟨w1, hw1⟩ : ∃ w1, w.alloc (.cells #[.slice ap np cp, .slice aa na ca, .slice ae ne ce, .int .i64 c.r] 24) = w1 := ⟨_, rfl⟩
    change Code.wp _ _ _ _ (w.alloc (.cells #[.slice ap np cp, .slice aa na ca, .slice ae ne ce, .int .i64 c.r] 24))
    rw [hw1] at B0 ⊢
    rw [show w.alloc (.cells [Value.slice ap np cp, .slice aa na ca, .slice ae ne ce, .int .i64 c.r].toArray 24) = w1 from hw1] at hbk
    clear hw1
    have HQ : Hid (∀ W, Below w1.heap.size w1 W → (fun W => W.cell? ⟨w.heap.size, 0, none⟩ = some (.slice ap np cp) ∧ W.cell? ⟨w.heap.size, 1, none⟩ = some (.slice aa na ca) ∧ W.cell? ⟨w.heap.size, 2, none⟩ = some (.slice ae ne ce) ∧ W.cell? ⟨w.heap.size, 3, none⟩ = some (.int .i64 c.r)) W) := Lib.hid fun W hW => by
      have h := hbk.below hW hbk.lt
      exact ⟨h.cell 0, h.cell 1, h.cell 2, h.cell 3⟩
    have HBc := (Below.refl w1.heap.size w1).drew
    have hs1 := B0.size
    have HB0 := Lib.hid B0
    clear hbk B0
    refine wp_region_held_drew (S := (fun W => W.cell? ⟨w.heap.size, 0, none⟩ = some (.slice ap np cp) ∧ W.cell? ⟨w.heap.size, 1, none⟩ = some (.slice aa na ca) ∧ W.cell? ⟨w.heap.size, 2, none⟩ = some (.slice ae ne ce) ∧ W.cell? ⟨w.heap.size, 3, none⟩ = some (.int .i64 c.r))) (by kernel_rfl) (by first | with_reducible exact HQ.out _ HBc | exact HQ.out _ HBc) (fun hHeld => ?_)
    refine held_take (i := 0) (v := ?_) rfl (by kernel_rfl) (by kernel_rfl) (by kernel_rfl) (fun _ _ _ h => h) (by rfl) ?_ (by assumption) ?_
    rotate_left
    · intro w hSw
      (try dsimp only at hSw)
      go_simp
      (try with_reducible rfl)
    try simp only [Act.put, List.setIfInBounds_toArray, List.set_cons_zero, List.set_cons_succ]
    refine held_take (i := 1) (v := ?_) rfl (by kernel_rfl) (by kernel_rfl) (by kernel_rfl) (fun _ _ _ h => h) (by rfl) ?_ (by assumption) ?_
    rotate_left
    · intro w hSw
      (try dsimp only at hSw)
      go_simp
      (try with_reducible rfl)
    try simp only [Act.put, List.setIfInBounds_toArray, List.set_cons_zero, List.set_cons_succ]
    refine held_take (i := 2) (v := ?_) rfl (by kernel_rfl) (by kernel_rfl) (by kernel_rfl) (fun _ _ _ h => h) (by rfl) ?_ (by assumption) ?_
    rotate_left
    · intro w hSw
      (try dsimp only at hSw)
      go_simp
      (try with_reducible rfl)
    try simp only [Act.put, List.setIfInBounds_toArray, List.set_cons_zero, List.set_cons_succ]
    refine held_take (i := 3) (v := ?_) rfl (by kernel_rfl) (by kernel_rfl) (by kernel_rfl) (fun _ _ _ h => h) (by rfl) ?_ (by assumption) ?_
    rotate_left
    · intro w hSw
      (try dsimp only at hSw)
      go_simp
      (try with_reducible rfl)
    try simp only [Act.put, List.setIfInBounds_toArray, List.set_cons_zero, List.set_cons_succ]
    refine held_take (i := 4) (v := ?_) rfl (by kernel_rfl) (by kernel_rfl) (by kernel_rfl) (fun _ _ _ h => h) (by rfl) ?_ (by assumption) ?_
    rotate_left
    · intro w hSw
      (try dsimp only at hSw)
      go_simp
      (try with_reducible rfl)
    try simp only [Act.put, List.setIfInBounds_toArray, List.set_cons_zero, List.set_cons_succ]
    refine held_take (i := 5) (v := ?_) rfl (by kernel_rfl) (by kernel_rfl) (by kernel_rfl) (fun _ _ _ h => h) (by rfl) ?_ (by assumption) ?_
    rotate_left
    · intro w hSw
      (try dsimp only at hSw)
      go_simp
      (try with_reducible rfl)
    try simp only [Act.put, List.setIfInBounds_toArray, List.set_cons_zero, List.set_cons_succ]
    refine held_take (i := 6) (v := ?_) rfl (by kernel_rfl) (by kernel_rfl) (by kernel_rfl) (fun _ _ _ h => h) (by rfl) ?_ (by assumption) ?_
    rotate_left
    · intro w hSw
      (try dsimp only at hSw)
      go_simp
      (try with_reducible rfl)
    try simp only [Act.put, List.setIfInBounds_toArray, List.set_cons_zero, List.set_cons_succ]
    refine held_take (i := 7) (v := ?_) rfl (by kernel_rfl) (by kernel_rfl) (by kernel_rfl) (fun _ _ _ h => h) (by rfl) ?_ (by assumption) ?_
    rotate_left
    · intro w hSw
      (try dsimp only at hSw)
      go_simp
      (try with_reducible rfl)
    try simp only [Act.put, List.setIfInBounds_toArray, List.set_cons_zero, List.set_cons_succ]
    refine held_take (i := 8) (v := ?_) rfl (by kernel_rfl) (by kernel_rfl) (by kernel_rfl) (fun _ _ _ h => h) (by rfl) ?_ (by assumption) ?_
    rotate_left
    · intro w hSw
      (try dsimp only at hSw)
      go_simp
      (try with_reducible rfl)
    try simp only [Act.put, List.setIfInBounds_toArray, List.set_cons_zero, List.set_cons_succ]
    refine held_take (i := 9) (v := ?_) rfl (by kernel_rfl) (by kernel_rfl) (by kernel_rfl) (fun _ _ _ h => h) (by rfl) ?_ (by assumption) ?_
    rotate_left
    · intro w hSw
      (try dsimp only at hSw)
      go_simp
      (try with_reducible rfl)
    try simp only [Act.put, List.setIfInBounds_toArray, List.set_cons_zero, List.set_cons_succ]
    refine held_take (i := 10) (v := ?_) rfl (by kernel_rfl) (by kernel_rfl) (by kernel_rfl) (fun _ _ _ h => h) (by rfl) ?_ (by assumption) ?_
    rotate_left
    · intro w hSw
      (try dsimp only at hSw)
      go_simp
      (try with_reducible rfl)
    try simp only [Act.put, List.setIfInBounds_toArray, List.set_cons_zero, List.set_cons_succ]
    refine held_take (i := 11) (v := ?_) rfl (by kernel_rfl) (by kernel_rfl) (by kernel_rfl) (fun _ _ _ h => h) (by rfl) ?_ (by assumption) ?_
    rotate_left
    · intro w hSw
      (try dsimp only at hSw)
      go_simp
      (try with_reducible rfl)
    try simp only [Act.put, List.setIfInBounds_toArray, List.set_cons_zero, List.set_cons_succ]
    refine held_take (i := 12) (v := ?_) rfl (by kernel_rfl) (by kernel_rfl) (by kernel_rfl) (fun _ _ _ h => h) (by rfl) ?_ (by assumption) ?_
    rotate_left
    · intro w hSw
      (try dsimp only at hSw)
      go_simp
      (try with_reducible rfl)
    try simp only [Act.put, List.setIfInBounds_toArray, List.set_cons_zero, List.set_cons_succ]
    refine held_take (i := 13) (v := ?_) rfl (by kernel_rfl) (by kernel_rfl) (by kernel_rfl) (fun _ _ _ h => h) (by rfl) ?_ (by assumption) ?_
    rotate_left
    · intro w hSw
      (try dsimp only at hSw)
      go_simp
      (try with_reducible rfl)
    try simp only [Act.put, List.setIfInBounds_toArray, List.set_cons_zero, List.set_cons_succ]
    refine held_take (i := 14) (v := ?_) rfl (by kernel_rfl) (by kernel_rfl) (by kernel_rfl) (fun _ _ _ h => h) (by rfl) ?_ (by assumption) ?_
    rotate_left
    · intro w hSw
      (try dsimp only at hSw)
      go_simp
      (try with_reducible rfl)
    try simp only [Act.put, List.setIfInBounds_toArray, List.set_cons_zero, List.set_cons_succ]
    refine held_take (i := 15) (v := ?_) rfl (by kernel_rfl) (by kernel_rfl) (by kernel_rfl) (fun _ _ _ h => h) (by rfl) ?_ (by assumption) ?_
    rotate_left
    · intro w hSw
      (try dsimp only at hSw)
      go_simp
      (try with_reducible rfl)
    try simp only [Act.put, List.setIfInBounds_toArray, List.set_cons_zero, List.set_cons_succ]
    refine held_take (i := 16) (v := ?_) rfl (by kernel_rfl) (by kernel_rfl) (by kernel_rfl) (fun _ _ _ h => h) (by rfl) ?_ (by assumption) ?_
    rotate_left
    · intro w hSw
      (try dsimp only at hSw)
      go_simp
      (try with_reducible rfl)
    try simp only [Act.put, List.setIfInBounds_toArray, List.set_cons_zero, List.set_cons_succ]
    refine held_take (i := 17) (v := ?_) rfl (by kernel_rfl) (by kernel_rfl) (by kernel_rfl) (fun _ _ _ h => h) (by rfl) ?_ (by assumption) ?_
    rotate_left
    · intro w hSw
      (try dsimp only at hSw)
      go_simp
      (try with_reducible rfl)
    try simp only [Act.put, List.setIfInBounds_toArray, List.set_cons_zero, List.set_cons_succ]
    refine held_take (i := 18) (v := ?_) rfl (by kernel_rfl) (by kernel_rfl) (by kernel_rfl) (fun _ _ _ h => h) (by rfl) ?_ (by assumption) ?_
    rotate_left
    · intro w hSw
      (try dsimp only at hSw)
      go_simp
      (try with_reducible rfl)
    try simp only [Act.put, List.setIfInBounds_toArray, List.set_cons_zero, List.set_cons_succ]
    refine held_take (i := 19) (v := ?_) rfl (by kernel_rfl) (by kernel_rfl) (by kernel_rfl) (fun _ _ _ h => h) (by rfl) ?_ (by assumption) ?_
    rotate_left
    · intro w hSw
      (try dsimp only at hSw)
      go_simp
      (try with_reducible rfl)
    try simp only [Act.put, List.setIfInBounds_toArray, List.set_cons_zero, List.set_cons_succ]
    refine held_take (i := 20) (v := ?_) rfl (by kernel_rfl) (by kernel_rfl) (by kernel_rfl) (fun _ _ _ h => h) (by rfl) ?_ (by assumption) ?_
    rotate_left
    · intro w hSw
      (try dsimp only at hSw)
      go_simp
      (try with_reducible rfl)
    try simp only [Act.put, List.setIfInBounds_toArray, List.set_cons_zero, List.set_cons_succ]
    refine held_take (i := 21) (v := ?_) rfl (by kernel_rfl) (by kernel_rfl) (by kernel_rfl) (fun _ _ _ h => h) (by rfl) ?_ (by assumption) ?_
    rotate_left
    · intro w hSw
      (try dsimp only at hSw)
      go_simp
      (try with_reducible rfl)
    try simp only [Act.put, List.setIfInBounds_toArray, List.set_cons_zero, List.set_cons_succ]
    refine held_take (i := 22) (v := ?_) rfl (by kernel_rfl) (by kernel_rfl) (by kernel_rfl) (fun _ _ _ h => h) (by rfl) ?_ (by assumption) ?_
    rotate_left
    · intro w hSw
      (try dsimp only at hSw)
      go_simp
      (try with_reducible rfl)
    try simp only [Act.put, List.setIfInBounds_toArray, List.set_cons_zero, List.set_cons_succ]
    refine held_take (i := 23) (v := ?_) rfl (by kernel_rfl) (by kernel_rfl) (by kernel_rfl) (fun _ _ _ h => h) (by rfl) ?_ (by assumption) ?_
    rotate_left
    · intro w hSw
      (try dsimp only at hSw)
      go_simp
      (try with_reducible rfl)
    try simp only [Act.put, List.setIfInBounds_toArray, List.set_cons_zero, List.set_cons_succ]
    refine held_take (i := 24) (v := ?_) rfl (by kernel_rfl) (by kernel_rfl) (by kernel_rfl) (fun _ _ _ h => h) (by rfl) ?_ (by assumption) ?_
    rotate_left
    · intro w hSw
      (try dsimp only at hSw)
      go_simp
      (try with_reducible rfl)
    try simp only [Act.put, List.setIfInBounds_toArray, List.set_cons_zero, List.set_cons_succ]
    refine held_take (i := 25) (v := ?_) rfl (by kernel_rfl) (by kernel_rfl) (by kernel_rfl) (fun _ _ _ h => h) (by rfl) ?_ (by assumption) ?_
    rotate_left
    · intro w hSw
      (try dsimp only at hSw)
      go_simp
      (try with_reducible rfl)
    try simp only [Act.put, List.setIfInBounds_toArray, List.set_cons_zero, List.set_cons_succ]
    refine held_take (i := 26) (v := ?_) rfl (by kernel_rfl) (by kernel_rfl) (by kernel_rfl) (fun _ _ _ h => h) (by rfl) ?_ (by assumption) ?_
    rotate_left
    · intro w hSw
      (try dsimp only at hSw)
      go_simp
      (try with_reducible rfl)
    try simp only [Act.put, List.setIfInBounds_toArray, List.set_cons_zero, List.set_cons_succ]
    refine held_take (i := 27) (v := ?_) rfl (by kernel_rfl) (by kernel_rfl) (by kernel_rfl) (fun _ _ _ h => h) (by rfl) ?_ (by assumption) ?_
    rotate_left
    · intro w hSw
      (try dsimp only at hSw)
      go_simp
      (try with_reducible rfl)
    try simp only [Act.put, List.setIfInBounds_toArray, List.set_cons_zero, List.set_cons_succ]
    refine held_take (i := 28) (v := ?_) rfl (by kernel_rfl) (by kernel_rfl) (by kernel_rfl) (fun _ _ _ h => h) (by rfl) ?_ (by assumption) ?_
    rotate_left
    · intro w hSw
      (try dsimp only at hSw)
      go_simp
      (try with_reducible rfl)
    try simp only [Act.put, List.setIfInBounds_toArray, List.set_cons_zero, List.set_cons_succ]
    refine held_take (i := 29) (v := ?_) rfl (by kernel_rfl) (by kernel_rfl) (by kernel_rfl) (fun _ _ _ h => h) (by rfl) ?_ (by assumption) ?_
    rotate_left
    · intro w hSw
      (try dsimp only at hSw)
      go_simp
      (try with_reducible rfl)
    try simp only [Act.put, List.setIfInBounds_toArray, List.set_cons_zero, List.set_cons_succ]
    refine held_take (i := 30) (v := ?_) rfl (by kernel_rfl) (by kernel_rfl) (by kernel_rfl) (fun _ _ _ h => h) (by rfl) ?_ (by assumption) ?_
    rotate_left
    · intro w hSw
      (try dsimp only at hSw)
      go_simp
      (try with_reducible rfl)
    try simp only [Act.put, List.setIfInBounds_toArray, List.set_cons_zero, List.set_cons_succ]
    refine held_take (i := 31) (v := ?_) rfl (by kernel_rfl) (by kernel_rfl) (by kernel_rfl) (fun _ _ _ h => h) (by rfl) ?_ (by assumption) ?_
    rotate_left
    · intro w hSw
      (try dsimp only at hSw)
      go_simp
      (try with_reducible rfl)
    try simp only [Act.put, List.setIfInBounds_toArray, List.set_cons_zero, List.set_cons_succ]
    refine held_take (i := 32) (v := ?_) rfl (by kernel_rfl) (by kernel_rfl) (by kernel_rfl) (fun _ _ _ h => h) (by rfl) ?_ (by assumption) ?_
    rotate_left
    · intro w hSw
      (try dsimp only at hSw)
      go_simp
      (try with_reducible rfl)
    try simp only [Act.put, List.setIfInBounds_toArray, List.set_cons_zero, List.set_cons_succ]
    refine wpAnyH_ready (rs := [33]) (by kernel_rfl) (by simp) ?_
    refine held_call rfl (fun K hK => ?_)
    go_simp
    go_at_call 33
    refine (beyond33_new 16777216 _).mono ?_
    rintro e wn ⟨⟨bk, rfl, hbn⟩, hBn⟩
    replace HBc := HBc.trans (hBn.mono HBc.size)
    clear hBn
    go_wp2_with fail
    refine hK.out _ _ (by first | with_reducible exact HQ.out _ HBc | exact HQ.out _ HBc) (fun hH2 => ?_)
    clear hK K hHeld
    have hHeld := hH2
    clear hH2
    try simp only [Act.put, List.setIfInBounds_toArray, List.set_cons_zero, List.set_cons_succ]
    refine wpAnyH_ready (rs := [34]) (by kernel_rfl) (by simp) ?_
    refine held_call rfl (fun K hK => ?_)
    go_simp
    go_at_call 35
    refine (contains35_any (.slice ap np cp) np c.P 16777216 _ _ LP.out ((VP.out.new HB0.out).new HBc) (by decide) (by decide) hbn).mono ?_
    rintro e wm ⟨rfl, hBm⟩
    rw [H5.out]
    replace HBc := HBc.trans (hBm.mono HBc.size)
    clear hBm hbn
    go_wp2_with fail
    refine hK.out _ _ (by first | with_reducible exact HQ.out _ HBc | exact HQ.out _ HBc) (fun hH2 => ?_)
    clear hK K hHeld
    have hHeld := hH2
    clear hH2
    try simp only [Act.put, List.setIfInBounds_toArray, List.set_cons_zero, List.set_cons_succ]
    refine held_take (i := 35) (v := ?_) rfl (by kernel_rfl) (by kernel_rfl) (by kernel_rfl) (fun _ _ _ h => h) (by rfl) ?_ (by assumption) ?_
    rotate_left
    · intro w hSw
      (try dsimp only at hSw)
      go_simp
      (try with_reducible rfl)
    try simp only [Act.put, List.setIfInBounds_toArray, List.set_cons_zero, List.set_cons_succ]
    refine held_take (i := 36) (v := ?_) rfl (by kernel_rfl) (by kernel_rfl) (by kernel_rfl) (fun _ _ _ h => h) (by rfl) ?_ (by assumption) ?_
    rotate_left
    · intro w hSw
      (try dsimp only at hSw)
      go_simp
      (try with_reducible rfl)
    try simp only [Act.put, List.setIfInBounds_toArray, List.set_cons_zero, List.set_cons_succ]
    refine held_take (i := 37) (v := ?_) rfl (by kernel_rfl) (by kernel_rfl) (by kernel_rfl) (fun _ _ _ h => h) (by rfl) ?_ (by assumption) ?_
    rotate_left
    · intro w hSw
      (try dsimp only at hSw)
      go_simp
      (try with_reducible rfl)
    try simp only [Act.put, List.setIfInBounds_toArray, List.set_cons_zero, List.set_cons_succ]
    refine held_take (i := 38) (v := ?_) rfl (by kernel_rfl) (by kernel_rfl) (by kernel_rfl) (fun _ _ _ h => h) (by rfl) ?_ (by assumption) ?_
    rotate_left
    · intro w hSw
      (try dsimp only at hSw)
      go_simp
      (try with_reducible rfl)
    try simp only [Act.put, List.setIfInBounds_toArray, List.set_cons_zero, List.set_cons_succ]
    refine held_take (i := 39) (v := ?_) rfl (by kernel_rfl) (by kernel_rfl) (by kernel_rfl) (fun _ _ _ h => h) (by rfl) ?_ (by assumption) ?_
    rotate_left
    · intro w hSw
      (try dsimp only at hSw)
      go_simp
      (try with_reducible rfl)
    try simp only [Act.put, List.setIfInBounds_toArray, List.set_cons_zero, List.set_cons_succ]
    refine wpAnyH_ready (rs := [40]) (by kernel_rfl) (by simp) ?_
    refine held_call rfl (fun K hK => ?_)
    go_simp
    go_at_call 33
    refine (beyond33_new 1048576 _).mono ?_
    rintro e wn ⟨⟨bk, rfl, hbn⟩, hBn⟩
    replace HBc := HBc.trans (hBn.mono HBc.size)
    clear hBn
    go_wp2_with fail
    refine hK.out _ _ (by first | with_reducible exact HQ.out _ HBc | exact HQ.out _ HBc) (fun hH2 => ?_)
    clear hK K hHeld
    have hHeld := hH2
    clear hH2
    try simp only [Act.put, List.setIfInBounds_toArray, List.set_cons_zero, List.set_cons_succ]
    refine wpAnyH_ready (rs := [41]) (by kernel_rfl) (by simp) ?_
    refine held_call rfl (fun K hK => ?_)
    go_simp
    go_at_call 35
    refine (contains35_any (.slice aa na ca) na c.A 1048576 _ _ LA.out ((VA.out.new HB0.out).new HBc) (by decide) (by decide) hbn).mono ?_
    rintro e wm ⟨rfl, hBm⟩
    rw [H6.out]
    replace HBc := HBc.trans (hBm.mono HBc.size)
    clear hBm hbn
    go_wp2_with fail
    refine hK.out _ _ (by first | with_reducible exact HQ.out _ HBc | exact HQ.out _ HBc) (fun hH2 => ?_)
    clear hK K hHeld
    have hHeld := hH2
    clear hH2
    try simp only [Act.put, List.setIfInBounds_toArray, List.set_cons_zero, List.set_cons_succ]
    refine held_take (i := 42) (v := ?_) rfl (by kernel_rfl) (by kernel_rfl) (by kernel_rfl) (fun _ _ _ h => h) (by rfl) ?_ (by assumption) ?_
    rotate_left
    · intro w hSw
      (try dsimp only at hSw)
      go_simp
      (try with_reducible rfl)
    try simp only [Act.put, List.setIfInBounds_toArray, List.set_cons_zero, List.set_cons_succ]
    refine held_take (i := 43) (v := ?_) rfl (by kernel_rfl) (by kernel_rfl) (by kernel_rfl) (fun _ _ _ h => h) (by rfl) ?_ (by assumption) ?_
    rotate_left
    · intro w hSw
      (try dsimp only at hSw)
      go_simp
      (try with_reducible rfl)
    try simp only [Act.put, List.setIfInBounds_toArray, List.set_cons_zero, List.set_cons_succ]
    refine held_take (i := 44) (v := ?_) rfl (by kernel_rfl) (by kernel_rfl) (by kernel_rfl) (fun _ _ _ h => h) (by rfl) ?_ (by assumption) ?_
    rotate_left
    · intro w hSw
      (try dsimp only at hSw)
      go_simp
      (try with_reducible rfl)
    try simp only [Act.put, List.setIfInBounds_toArray, List.set_cons_zero, List.set_cons_succ]
    refine held_take (i := 45) (v := ?_) rfl (by kernel_rfl) (by kernel_rfl) (by kernel_rfl) (fun _ _ _ h => h) (by rfl) ?_ (by assumption) ?_
    rotate_left
    · intro w hSw
      (try dsimp only at hSw)
      go_simp
      (try with_reducible rfl)
    try simp only [Act.put, List.setIfInBounds_toArray, List.set_cons_zero, List.set_cons_succ]
    refine held_take (i := 46) (v := ?_) rfl (by kernel_rfl) (by kernel_rfl) (by kernel_rfl) (fun _ _ _ h => h) (by rfl) ?_ (by assumption) ?_
    rotate_left
    · intro w hSw
      (try dsimp only at hSw)
      go_simp
      (try with_reducible rfl)
    try simp only [Act.put, List.setIfInBounds_toArray, List.set_cons_zero, List.set_cons_succ]
    refine wpAnyH_ready (rs := [47]) (by kernel_rfl) (by simp) ?_
    refine held_call rfl (fun K hK => ?_)
    go_simp
    go_at_call 33
    refine (beyond33_new 1048576 _).mono ?_
    rintro e wn ⟨⟨bk, rfl, hbn⟩, hBn⟩
    replace HBc := HBc.trans (hBn.mono HBc.size)
    clear hBn
    go_wp2_with fail
    refine hK.out _ _ (by first | with_reducible exact HQ.out _ HBc | exact HQ.out _ HBc) (fun hH2 => ?_)
    clear hK K hHeld
    have hHeld := hH2
    clear hH2
    try simp only [Act.put, List.setIfInBounds_toArray, List.set_cons_zero, List.set_cons_succ]
    refine wpAnyH_ready (rs := [48]) (by kernel_rfl) (by simp) ?_
    refine held_call rfl (fun K hK => ?_)
    go_simp
    go_at_call 35
    refine (contains35_any (.slice ae ne ce) ne c.E 1048576 _ _ LE.out ((VE.out.new HB0.out).new HBc) (by decide) (by decide) hbn).mono ?_
    rintro e wm ⟨rfl, hBm⟩
    rw [H7.out]
    replace HBc := HBc.trans (hBm.mono HBc.size)
    clear hBm hbn
    go_wp2_with fail
    refine hK.out _ _ (by first | with_reducible exact HQ.out _ HBc | exact HQ.out _ HBc) (fun hH2 => ?_)
    clear hK K hHeld
    have hHeld := hH2
    clear hH2
    try simp only [Act.put, List.setIfInBounds_toArray, List.set_cons_zero, List.set_cons_succ]
    refine held_take (i := 49) (v := ?_) rfl (by kernel_rfl) (by kernel_rfl) (by kernel_rfl) (fun _ _ _ h => h) (by rfl) ?_ (by assumption) ?_
    rotate_left
    · intro w hSw
      (try dsimp only at hSw)
      go_simp
      (try with_reducible rfl)
    try simp only [Act.put, List.setIfInBounds_toArray, List.set_cons_zero, List.set_cons_succ]
    refine held_take (i := 50) (v := ?_) rfl (by kernel_rfl) (by kernel_rfl) (by kernel_rfl) (fun _ _ _ h => h) (by rfl) ?_ (by assumption) ?_
    rotate_left
    · intro w hSw
      (try dsimp only at hSw)
      go_simp
      (try with_reducible rfl)
    try simp only [Act.put, List.setIfInBounds_toArray, List.set_cons_zero, List.set_cons_succ]
    refine held_take (i := 51) (v := ?_) rfl (by kernel_rfl) (by kernel_rfl) (by kernel_rfl) (fun _ _ _ h => h) (by rfl) ?_ (by assumption) ?_
    rotate_left
    · intro w hSw
      (try dsimp only at hSw)
      go_simp
      (try with_reducible rfl)
    try simp only [Act.put, List.setIfInBounds_toArray, List.set_cons_zero, List.set_cons_succ]
    refine wpAnyH_done (by kernel_rfl) ?_ _
    go_wp2
    all_goals (go_ret; exact ⟨rfl, HB0.out.trans (HBc.mono hs1)⟩)
set_option maxRecDepth 100000 in
theorem may28_8 (pv av ev : Value) (np na ne : Nat) (c : Cor) (w : World) (hp : c.P.length = np) (ha : c.A.length = na) (he : c.E.length = ne) (vp : Rd w pv np 3 (ptCells c.P)) (va : Rd w av na 3 (ptCells c.A)) (ve : Rd w ev ne 3 (ptCells c.E))
    (h0 : (0 < np)) (h1 : (np ≤ 32)) (h2 : (na ≤ 128 ∧ ne ≤ 128)) (h3 : (0 ≤ c.r)) (h4 : (c.r ≤ 65536)) (h5 : c.P.all (nearB 16777216) = true) (h6 : c.A.all (nearB 1048576) = true) (h7 : c.E.all (nearB 1048576) = true) :
    Calls Try.prog 28 #[corV pv av ev c.r] w fun e w' => e = .returned (.bool true) ∧ Below w.heap.size w w' := by
  obtain ⟨ap, cp, rfl, p1, p2⟩ := vp.shape
  obtain ⟨aa, ca, rfl, a1, a2⟩ := va.shape
  obtain ⟨ae, ce, rfl, e1, e2⟩ := ve.shape
  have B0 : Below w.heap.size w (w.alloc (.cells #[.slice ap np cp, .slice aa na ca, .slice ae ne ce, .int .i64 c.r] 24)) := (Below.refl _ w).alloc (Nat.le_refl _) _
  have hbk := Blk.newAt (w := w) (b := w.heap.size) rfl 24 [.slice ap np cp, .slice aa na ca, .slice ae ne ce, .int .i64 c.r]
  have VP := Lib.hid vp
  have VA := Lib.hid va
  have VE := Lib.hid ve
  have LP := Lib.hid hp
  have LA := Lib.hid ha
  have LE := Lib.hid he
  clear vp va ve hp ha he
  have g0 : decide (0 < np) = true := decide_eq_true h0
  have g0I : decide ((np : Int) > 0) = true := decide_eq_true (by omega)
  have g1 : decide (np ≤ 32) = true := decide_eq_true h1
  have g1I : decide ((np : Int) ≤ 32) = true := decide_eq_true (by omega)
  have g2 : decide ((if na < ne then (ne : Int) else (na : Int)) ≤ 128) = true := decide_eq_true (by split <;> omega)
  have g2naN : decide (na ≤ 128) = true := decide_eq_true (by omega)
  have g2naI : decide ((na : Int) ≤ 128) = true := decide_eq_true (by omega)
  have g2neN : decide (ne ≤ 128) = true := decide_eq_true (by omega)
  have g2neI : decide ((ne : Int) ≤ 128) = true := decide_eq_true (by omega)
  have g3 : decide (0 ≤ c.r) = true := decide_eq_true h3
  have g4 : decide (c.r ≤ 65536) = true := decide_eq_true h4
  have H5 := Lib.hid h5
  have H6 := Lib.hid h6
  have H7 := Lib.hid h7
  clear h5 h6 h7
  rcases Decidable.em (na < ne) with hmx | hmx
  all_goals
    go_enter Try.func28, Try.ntmps28
    go_upto_region 1 with (fail)
    obtain ⟨w1, hw1⟩ : ∃ w1, w.alloc (.cells #[.slice ap np cp, .slice aa na ca, .slice ae ne ce, .int .i64 c.r] 24) = w1 := ⟨_, rfl⟩
    change Code.wp _ _ _ _ (w.alloc (.cells #[.slice ap np cp, .slice aa na ca, .slice ae ne ce, .int .i64 c.r] 24))
    rw [hw1] at B0 ⊢
    rw [show w.alloc (.cells [Value.slice ap np cp, .slice aa na ca, .slice ae ne ce, .int .i64 c.r].toArray 24) = w1 from hw1] at hbk
    clear hw1
    have HQ : Hid (∀ W, Below w1.heap.size w1 W → (fun W => W.cell? ⟨w.heap.size, 0, none⟩ = some (.slice ap np cp) ∧ W.cell? ⟨w.heap.size, 1, none⟩ = some (.slice aa na ca) ∧ W.cell? ⟨w.heap.size, 2, none⟩ = some (.slice ae ne ce) ∧ W.cell? ⟨w.heap.size, 3, none⟩ = some (.int .i64 c.r)) W) := Lib.hid fun W hW => by
      have h := hbk.below hW hbk.lt
      exact ⟨h.cell 0, h.cell 1, h.cell 2, h.cell 3⟩
    have HBc := (Below.refl w1.heap.size w1).drew
    have hs1 := B0.size
    have HB0 := Lib.hid B0
    clear hbk B0
    refine wp_region_held_drew (S := (fun W => W.cell? ⟨w.heap.size, 0, none⟩ = some (.slice ap np cp) ∧ W.cell? ⟨w.heap.size, 1, none⟩ = some (.slice aa na ca) ∧ W.cell? ⟨w.heap.size, 2, none⟩ = some (.slice ae ne ce) ∧ W.cell? ⟨w.heap.size, 3, none⟩ = some (.int .i64 c.r))) (by kernel_rfl) (by first | with_reducible exact HQ.out _ HBc | exact HQ.out _ HBc) (fun hHeld => ?_)
    refine held_take (i := 0) (v := ?_) rfl (by kernel_rfl) (by kernel_rfl) (by kernel_rfl) (fun _ _ _ h => h) (by rfl) ?_ (by assumption) ?_
    rotate_left
    · intro w hSw
      (try dsimp only at hSw)
      go_simp
      (try with_reducible rfl)
    try simp only [Act.put, List.setIfInBounds_toArray, List.set_cons_zero, List.set_cons_succ]
    refine held_take (i := 1) (v := ?_) rfl (by kernel_rfl) (by kernel_rfl) (by kernel_rfl) (fun _ _ _ h => h) (by rfl) ?_ (by assumption) ?_
    rotate_left
    · intro w hSw
      (try dsimp only at hSw)
      go_simp
      (try with_reducible rfl)
    try simp only [Act.put, List.setIfInBounds_toArray, List.set_cons_zero, List.set_cons_succ]
    refine held_take (i := 2) (v := ?_) rfl (by kernel_rfl) (by kernel_rfl) (by kernel_rfl) (fun _ _ _ h => h) (by rfl) ?_ (by assumption) ?_
    rotate_left
    · intro w hSw
      (try dsimp only at hSw)
      go_simp
      (try with_reducible rfl)
    try simp only [Act.put, List.setIfInBounds_toArray, List.set_cons_zero, List.set_cons_succ]
    refine held_take (i := 3) (v := ?_) rfl (by kernel_rfl) (by kernel_rfl) (by kernel_rfl) (fun _ _ _ h => h) (by rfl) ?_ (by assumption) ?_
    rotate_left
    · intro w hSw
      (try dsimp only at hSw)
      go_simp
      (try with_reducible rfl)
    try simp only [Act.put, List.setIfInBounds_toArray, List.set_cons_zero, List.set_cons_succ]
    refine held_take (i := 4) (v := ?_) rfl (by kernel_rfl) (by kernel_rfl) (by kernel_rfl) (fun _ _ _ h => h) (by rfl) ?_ (by assumption) ?_
    rotate_left
    · intro w hSw
      (try dsimp only at hSw)
      go_simp
      (try with_reducible rfl)
    try simp only [Act.put, List.setIfInBounds_toArray, List.set_cons_zero, List.set_cons_succ]
    refine held_take (i := 5) (v := ?_) rfl (by kernel_rfl) (by kernel_rfl) (by kernel_rfl) (fun _ _ _ h => h) (by rfl) ?_ (by assumption) ?_
    rotate_left
    · intro w hSw
      (try dsimp only at hSw)
      go_simp
      (try with_reducible rfl)
    try simp only [Act.put, List.setIfInBounds_toArray, List.set_cons_zero, List.set_cons_succ]
    refine held_take (i := 6) (v := ?_) rfl (by kernel_rfl) (by kernel_rfl) (by kernel_rfl) (fun _ _ _ h => h) (by rfl) ?_ (by assumption) ?_
    rotate_left
    · intro w hSw
      (try dsimp only at hSw)
      go_simp
      (try with_reducible rfl)
    try simp only [Act.put, List.setIfInBounds_toArray, List.set_cons_zero, List.set_cons_succ]
    refine held_take (i := 7) (v := ?_) rfl (by kernel_rfl) (by kernel_rfl) (by kernel_rfl) (fun _ _ _ h => h) (by rfl) ?_ (by assumption) ?_
    rotate_left
    · intro w hSw
      (try dsimp only at hSw)
      go_simp
      (try with_reducible rfl)
    try simp only [Act.put, List.setIfInBounds_toArray, List.set_cons_zero, List.set_cons_succ]
    refine held_take (i := 8) (v := ?_) rfl (by kernel_rfl) (by kernel_rfl) (by kernel_rfl) (fun _ _ _ h => h) (by rfl) ?_ (by assumption) ?_
    rotate_left
    · intro w hSw
      (try dsimp only at hSw)
      go_simp
      (try with_reducible rfl)
    try simp only [Act.put, List.setIfInBounds_toArray, List.set_cons_zero, List.set_cons_succ]
    refine held_take (i := 9) (v := ?_) rfl (by kernel_rfl) (by kernel_rfl) (by kernel_rfl) (fun _ _ _ h => h) (by rfl) ?_ (by assumption) ?_
    rotate_left
    · intro w hSw
      (try dsimp only at hSw)
      go_simp
      (try with_reducible rfl)
    try simp only [Act.put, List.setIfInBounds_toArray, List.set_cons_zero, List.set_cons_succ]
    refine held_take (i := 10) (v := ?_) rfl (by kernel_rfl) (by kernel_rfl) (by kernel_rfl) (fun _ _ _ h => h) (by rfl) ?_ (by assumption) ?_
    rotate_left
    · intro w hSw
      (try dsimp only at hSw)
      go_simp
      (try with_reducible rfl)
    try simp only [Act.put, List.setIfInBounds_toArray, List.set_cons_zero, List.set_cons_succ]
    refine held_take (i := 11) (v := ?_) rfl (by kernel_rfl) (by kernel_rfl) (by kernel_rfl) (fun _ _ _ h => h) (by rfl) ?_ (by assumption) ?_
    rotate_left
    · intro w hSw
      (try dsimp only at hSw)
      go_simp
      (try with_reducible rfl)
    try simp only [Act.put, List.setIfInBounds_toArray, List.set_cons_zero, List.set_cons_succ]
    refine held_take (i := 12) (v := ?_) rfl (by kernel_rfl) (by kernel_rfl) (by kernel_rfl) (fun _ _ _ h => h) (by rfl) ?_ (by assumption) ?_
    rotate_left
    · intro w hSw
      (try dsimp only at hSw)
      go_simp
      (try with_reducible rfl)
    try simp only [Act.put, List.setIfInBounds_toArray, List.set_cons_zero, List.set_cons_succ]
    refine held_take (i := 13) (v := ?_) rfl (by kernel_rfl) (by kernel_rfl) (by kernel_rfl) (fun _ _ _ h => h) (by rfl) ?_ (by assumption) ?_
    rotate_left
    · intro w hSw
      (try dsimp only at hSw)
      go_simp
      (try with_reducible rfl)
    try simp only [Act.put, List.setIfInBounds_toArray, List.set_cons_zero, List.set_cons_succ]
    refine held_take (i := 14) (v := ?_) rfl (by kernel_rfl) (by kernel_rfl) (by kernel_rfl) (fun _ _ _ h => h) (by rfl) ?_ (by assumption) ?_
    rotate_left
    · intro w hSw
      (try dsimp only at hSw)
      go_simp
      (try with_reducible rfl)
    try simp only [Act.put, List.setIfInBounds_toArray, List.set_cons_zero, List.set_cons_succ]
    refine held_take (i := 15) (v := ?_) rfl (by kernel_rfl) (by kernel_rfl) (by kernel_rfl) (fun _ _ _ h => h) (by rfl) ?_ (by assumption) ?_
    rotate_left
    · intro w hSw
      (try dsimp only at hSw)
      go_simp
      (try with_reducible rfl)
    try simp only [Act.put, List.setIfInBounds_toArray, List.set_cons_zero, List.set_cons_succ]
    refine held_take (i := 16) (v := ?_) rfl (by kernel_rfl) (by kernel_rfl) (by kernel_rfl) (fun _ _ _ h => h) (by rfl) ?_ (by assumption) ?_
    rotate_left
    · intro w hSw
      (try dsimp only at hSw)
      go_simp
      (try with_reducible rfl)
    try simp only [Act.put, List.setIfInBounds_toArray, List.set_cons_zero, List.set_cons_succ]
    refine held_take (i := 17) (v := ?_) rfl (by kernel_rfl) (by kernel_rfl) (by kernel_rfl) (fun _ _ _ h => h) (by rfl) ?_ (by assumption) ?_
    rotate_left
    · intro w hSw
      (try dsimp only at hSw)
      go_simp
      (try with_reducible rfl)
    try simp only [Act.put, List.setIfInBounds_toArray, List.set_cons_zero, List.set_cons_succ]
    refine held_take (i := 18) (v := ?_) rfl (by kernel_rfl) (by kernel_rfl) (by kernel_rfl) (fun _ _ _ h => h) (by rfl) ?_ (by assumption) ?_
    rotate_left
    · intro w hSw
      (try dsimp only at hSw)
      go_simp
      (try with_reducible rfl)
    try simp only [Act.put, List.setIfInBounds_toArray, List.set_cons_zero, List.set_cons_succ]
    refine held_take (i := 19) (v := ?_) rfl (by kernel_rfl) (by kernel_rfl) (by kernel_rfl) (fun _ _ _ h => h) (by rfl) ?_ (by assumption) ?_
    rotate_left
    · intro w hSw
      (try dsimp only at hSw)
      go_simp
      (try with_reducible rfl)
    try simp only [Act.put, List.setIfInBounds_toArray, List.set_cons_zero, List.set_cons_succ]
    refine held_take (i := 20) (v := ?_) rfl (by kernel_rfl) (by kernel_rfl) (by kernel_rfl) (fun _ _ _ h => h) (by rfl) ?_ (by assumption) ?_
    rotate_left
    · intro w hSw
      (try dsimp only at hSw)
      go_simp
      (try with_reducible rfl)
    try simp only [Act.put, List.setIfInBounds_toArray, List.set_cons_zero, List.set_cons_succ]
    refine held_take (i := 21) (v := ?_) rfl (by kernel_rfl) (by kernel_rfl) (by kernel_rfl) (fun _ _ _ h => h) (by rfl) ?_ (by assumption) ?_
    rotate_left
    · intro w hSw
      (try dsimp only at hSw)
      go_simp
      (try with_reducible rfl)
    try simp only [Act.put, List.setIfInBounds_toArray, List.set_cons_zero, List.set_cons_succ]
    refine held_take (i := 22) (v := ?_) rfl (by kernel_rfl) (by kernel_rfl) (by kernel_rfl) (fun _ _ _ h => h) (by rfl) ?_ (by assumption) ?_
    rotate_left
    · intro w hSw
      (try dsimp only at hSw)
      go_simp
      (try with_reducible rfl)
    try simp only [Act.put, List.setIfInBounds_toArray, List.set_cons_zero, List.set_cons_succ]
    refine held_take (i := 23) (v := ?_) rfl (by kernel_rfl) (by kernel_rfl) (by kernel_rfl) (fun _ _ _ h => h) (by rfl) ?_ (by assumption) ?_
    rotate_left
    · intro w hSw
      (try dsimp only at hSw)
      go_simp
      (try with_reducible rfl)
    try simp only [Act.put, List.setIfInBounds_toArray, List.set_cons_zero, List.set_cons_succ]
    refine held_take (i := 24) (v := ?_) rfl (by kernel_rfl) (by kernel_rfl) (by kernel_rfl) (fun _ _ _ h => h) (by rfl) ?_ (by assumption) ?_
    rotate_left
    · intro w hSw
      (try dsimp only at hSw)
      go_simp
      (try with_reducible rfl)
    try simp only [Act.put, List.setIfInBounds_toArray, List.set_cons_zero, List.set_cons_succ]
    refine held_take (i := 25) (v := ?_) rfl (by kernel_rfl) (by kernel_rfl) (by kernel_rfl) (fun _ _ _ h => h) (by rfl) ?_ (by assumption) ?_
    rotate_left
    · intro w hSw
      (try dsimp only at hSw)
      go_simp
      (try with_reducible rfl)
    try simp only [Act.put, List.setIfInBounds_toArray, List.set_cons_zero, List.set_cons_succ]
    refine held_take (i := 26) (v := ?_) rfl (by kernel_rfl) (by kernel_rfl) (by kernel_rfl) (fun _ _ _ h => h) (by rfl) ?_ (by assumption) ?_
    rotate_left
    · intro w hSw
      (try dsimp only at hSw)
      go_simp
      (try with_reducible rfl)
    try simp only [Act.put, List.setIfInBounds_toArray, List.set_cons_zero, List.set_cons_succ]
    refine held_take (i := 27) (v := ?_) rfl (by kernel_rfl) (by kernel_rfl) (by kernel_rfl) (fun _ _ _ h => h) (by rfl) ?_ (by assumption) ?_
    rotate_left
    · intro w hSw
      (try dsimp only at hSw)
      go_simp
      (try with_reducible rfl)
    try simp only [Act.put, List.setIfInBounds_toArray, List.set_cons_zero, List.set_cons_succ]
    refine held_take (i := 28) (v := ?_) rfl (by kernel_rfl) (by kernel_rfl) (by kernel_rfl) (fun _ _ _ h => h) (by rfl) ?_ (by assumption) ?_
    rotate_left
    · intro w hSw
      (try dsimp only at hSw)
      go_simp
      (try with_reducible rfl)
    try simp only [Act.put, List.setIfInBounds_toArray, List.set_cons_zero, List.set_cons_succ]
    refine held_take (i := 29) (v := ?_) rfl (by kernel_rfl) (by kernel_rfl) (by kernel_rfl) (fun _ _ _ h => h) (by rfl) ?_ (by assumption) ?_
    rotate_left
    · intro w hSw
      (try dsimp only at hSw)
      go_simp
      (try with_reducible rfl)
    try simp only [Act.put, List.setIfInBounds_toArray, List.set_cons_zero, List.set_cons_succ]
    refine held_take (i := 30) (v := ?_) rfl (by kernel_rfl) (by kernel_rfl) (by kernel_rfl) (fun _ _ _ h => h) (by rfl) ?_ (by assumption) ?_
    rotate_left
    · intro w hSw
      (try dsimp only at hSw)
      go_simp
      (try with_reducible rfl)
    try simp only [Act.put, List.setIfInBounds_toArray, List.set_cons_zero, List.set_cons_succ]
    refine held_take (i := 31) (v := ?_) rfl (by kernel_rfl) (by kernel_rfl) (by kernel_rfl) (fun _ _ _ h => h) (by rfl) ?_ (by assumption) ?_
    rotate_left
    · intro w hSw
      (try dsimp only at hSw)
      go_simp
      (try with_reducible rfl)
    try simp only [Act.put, List.setIfInBounds_toArray, List.set_cons_zero, List.set_cons_succ]
    refine held_take (i := 32) (v := ?_) rfl (by kernel_rfl) (by kernel_rfl) (by kernel_rfl) (fun _ _ _ h => h) (by rfl) ?_ (by assumption) ?_
    rotate_left
    · intro w hSw
      (try dsimp only at hSw)
      go_simp
      (try with_reducible rfl)
    try simp only [Act.put, List.setIfInBounds_toArray, List.set_cons_zero, List.set_cons_succ]
    refine wpAnyH_ready (rs := [33]) (by kernel_rfl) (by simp) ?_
    refine held_call rfl (fun K hK => ?_)
    go_simp
    go_at_call 33
    refine (beyond33_new 16777216 _).mono ?_
    rintro e wn ⟨⟨bk, rfl, hbn⟩, hBn⟩
    replace HBc := HBc.trans (hBn.mono HBc.size)
    clear hBn
    go_wp2_with fail
    refine hK.out _ _ (by first | with_reducible exact HQ.out _ HBc | exact HQ.out _ HBc) (fun hH2 => ?_)
    clear hK K hHeld
    have hHeld := hH2
    clear hH2
    try simp only [Act.put, List.setIfInBounds_toArray, List.set_cons_zero, List.set_cons_succ]
    refine wpAnyH_ready (rs := [34]) (by kernel_rfl) (by simp) ?_
    refine held_call rfl (fun K hK => ?_)
    go_simp
    go_at_call 35
    refine (contains35_any (.slice ap np cp) np c.P 16777216 _ _ LP.out ((VP.out.new HB0.out).new HBc) (by decide) (by decide) hbn).mono ?_
    rintro e wm ⟨rfl, hBm⟩
    rw [H5.out]
    replace HBc := HBc.trans (hBm.mono HBc.size)
    clear hBm hbn
    go_wp2_with fail
    refine hK.out _ _ (by first | with_reducible exact HQ.out _ HBc | exact HQ.out _ HBc) (fun hH2 => ?_)
    clear hK K hHeld
    have hHeld := hH2
    clear hH2
    try simp only [Act.put, List.setIfInBounds_toArray, List.set_cons_zero, List.set_cons_succ]
    refine held_take (i := 35) (v := ?_) rfl (by kernel_rfl) (by kernel_rfl) (by kernel_rfl) (fun _ _ _ h => h) (by rfl) ?_ (by assumption) ?_
    rotate_left
    · intro w hSw
      (try dsimp only at hSw)
      go_simp
      (try with_reducible rfl)
    try simp only [Act.put, List.setIfInBounds_toArray, List.set_cons_zero, List.set_cons_succ]
    refine held_take (i := 36) (v := ?_) rfl (by kernel_rfl) (by kernel_rfl) (by kernel_rfl) (fun _ _ _ h => h) (by rfl) ?_ (by assumption) ?_
    rotate_left
    · intro w hSw
      (try dsimp only at hSw)
      go_simp
      (try with_reducible rfl)
    try simp only [Act.put, List.setIfInBounds_toArray, List.set_cons_zero, List.set_cons_succ]
    refine held_take (i := 37) (v := ?_) rfl (by kernel_rfl) (by kernel_rfl) (by kernel_rfl) (fun _ _ _ h => h) (by rfl) ?_ (by assumption) ?_
    rotate_left
    · intro w hSw
      (try dsimp only at hSw)
      go_simp
      (try with_reducible rfl)
    try simp only [Act.put, List.setIfInBounds_toArray, List.set_cons_zero, List.set_cons_succ]
    refine held_take (i := 38) (v := ?_) rfl (by kernel_rfl) (by kernel_rfl) (by kernel_rfl) (fun _ _ _ h => h) (by rfl) ?_ (by assumption) ?_
    rotate_left
    · intro w hSw
      (try dsimp only at hSw)
      go_simp
      (try with_reducible rfl)
    try simp only [Act.put, List.setIfInBounds_toArray, List.set_cons_zero, List.set_cons_succ]
    refine held_take (i := 39) (v := ?_) rfl (by kernel_rfl) (by kernel_rfl) (by kernel_rfl) (fun _ _ _ h => h) (by rfl) ?_ (by assumption) ?_
    rotate_left
    · intro w hSw
      (try dsimp only at hSw)
      go_simp
      (try with_reducible rfl)
    try simp only [Act.put, List.setIfInBounds_toArray, List.set_cons_zero, List.set_cons_succ]
    refine wpAnyH_ready (rs := [40]) (by kernel_rfl) (by simp) ?_
    refine held_call rfl (fun K hK => ?_)
    go_simp
    go_at_call 33
    refine (beyond33_new 1048576 _).mono ?_
    rintro e wn ⟨⟨bk, rfl, hbn⟩, hBn⟩
    replace HBc := HBc.trans (hBn.mono HBc.size)
    clear hBn
    go_wp2_with fail
    refine hK.out _ _ (by first | with_reducible exact HQ.out _ HBc | exact HQ.out _ HBc) (fun hH2 => ?_)
    clear hK K hHeld
    have hHeld := hH2
    clear hH2
    try simp only [Act.put, List.setIfInBounds_toArray, List.set_cons_zero, List.set_cons_succ]
    refine wpAnyH_ready (rs := [41]) (by kernel_rfl) (by simp) ?_
    refine held_call rfl (fun K hK => ?_)
    go_simp
    go_at_call 35
    refine (contains35_any (.slice aa na ca) na c.A 1048576 _ _ LA.out ((VA.out.new HB0.out).new HBc) (by decide) (by decide) hbn).mono ?_
    rintro e wm ⟨rfl, hBm⟩
    rw [H6.out]
    replace HBc := HBc.trans (hBm.mono HBc.size)
    clear hBm hbn
    go_wp2_with fail
    refine hK.out _ _ (by first | with_reducible exact HQ.out _ HBc | exact HQ.out _ HBc) (fun hH2 => ?_)
    clear hK K hHeld
    have hHeld := hH2
    clear hH2
    try simp only [Act.put, List.setIfInBounds_toArray, List.set_cons_zero, List.set_cons_succ]
    refine held_take (i := 42) (v := ?_) rfl (by kernel_rfl) (by kernel_rfl) (by kernel_rfl) (fun _ _ _ h => h) (by rfl) ?_ (by assumption) ?_
    rotate_left
    · intro w hSw
      (try dsimp only at hSw)
      go_simp
      (try with_reducible rfl)
    try simp only [Act.put, List.setIfInBounds_toArray, List.set_cons_zero, List.set_cons_succ]
    refine held_take (i := 43) (v := ?_) rfl (by kernel_rfl) (by kernel_rfl) (by kernel_rfl) (fun _ _ _ h => h) (by rfl) ?_ (by assumption) ?_
    rotate_left
    · intro w hSw
      (try dsimp only at hSw)
      go_simp
      (try with_reducible rfl)
    try simp only [Act.put, List.setIfInBounds_toArray, List.set_cons_zero, List.set_cons_succ]
    refine held_take (i := 44) (v := ?_) rfl (by kernel_rfl) (by kernel_rfl) (by kernel_rfl) (fun _ _ _ h => h) (by rfl) ?_ (by assumption) ?_
    rotate_left
    · intro w hSw
      (try dsimp only at hSw)
      go_simp
      (try with_reducible rfl)
    try simp only [Act.put, List.setIfInBounds_toArray, List.set_cons_zero, List.set_cons_succ]
    refine held_take (i := 45) (v := ?_) rfl (by kernel_rfl) (by kernel_rfl) (by kernel_rfl) (fun _ _ _ h => h) (by rfl) ?_ (by assumption) ?_
    rotate_left
    · intro w hSw
      (try dsimp only at hSw)
      go_simp
      (try with_reducible rfl)
    try simp only [Act.put, List.setIfInBounds_toArray, List.set_cons_zero, List.set_cons_succ]
    refine held_take (i := 46) (v := ?_) rfl (by kernel_rfl) (by kernel_rfl) (by kernel_rfl) (fun _ _ _ h => h) (by rfl) ?_ (by assumption) ?_
    rotate_left
    · intro w hSw
      (try dsimp only at hSw)
      go_simp
      (try with_reducible rfl)
    try simp only [Act.put, List.setIfInBounds_toArray, List.set_cons_zero, List.set_cons_succ]
    refine wpAnyH_ready (rs := [47]) (by kernel_rfl) (by simp) ?_
    refine held_call rfl (fun K hK => ?_)
    go_simp
    go_at_call 33
    refine (beyond33_new 1048576 _).mono ?_
    rintro e wn ⟨⟨bk, rfl, hbn⟩, hBn⟩
    replace HBc := HBc.trans (hBn.mono HBc.size)
    clear hBn
    go_wp2_with fail
    refine hK.out _ _ (by first | with_reducible exact HQ.out _ HBc | exact HQ.out _ HBc) (fun hH2 => ?_)
    clear hK K hHeld
    have hHeld := hH2
    clear hH2
    try simp only [Act.put, List.setIfInBounds_toArray, List.set_cons_zero, List.set_cons_succ]
    refine wpAnyH_ready (rs := [48]) (by kernel_rfl) (by simp) ?_
    refine held_call rfl (fun K hK => ?_)
    go_simp
    go_at_call 35
    refine (contains35_any (.slice ae ne ce) ne c.E 1048576 _ _ LE.out ((VE.out.new HB0.out).new HBc) (by decide) (by decide) hbn).mono ?_
    rintro e wm ⟨rfl, hBm⟩
    rw [H7.out]
    replace HBc := HBc.trans (hBm.mono HBc.size)
    clear hBm hbn
    go_wp2_with fail
    refine hK.out _ _ (by first | with_reducible exact HQ.out _ HBc | exact HQ.out _ HBc) (fun hH2 => ?_)
    clear hK K hHeld
    have hHeld := hH2
    clear hH2
    try simp only [Act.put, List.setIfInBounds_toArray, List.set_cons_zero, List.set_cons_succ]
    refine held_take (i := 49) (v := ?_) rfl (by kernel_rfl) (by kernel_rfl) (by kernel_rfl) (fun _ _ _ h => h) (by rfl) ?_ (by assumption) ?_
    rotate_left
    · intro w hSw
      (try dsimp only at hSw)
      go_simp
      (try with_reducible rfl)
    try simp only [Act.put, List.setIfInBounds_toArray, List.set_cons_zero, List.set_cons_succ]
    refine held_take (i := 50) (v := ?_) rfl (by kernel_rfl) (by kernel_rfl) (by kernel_rfl) (fun _ _ _ h => h) (by rfl) ?_ (by assumption) ?_
    rotate_left
    · intro w hSw
      (try dsimp only at hSw)
      go_simp
      (try with_reducible rfl)
    try simp only [Act.put, List.setIfInBounds_toArray, List.set_cons_zero, List.set_cons_succ]
    refine held_take (i := 51) (v := ?_) rfl (by kernel_rfl) (by kernel_rfl) (by kernel_rfl) (fun _ _ _ h => h) (by rfl) ?_ (by assumption) ?_
    rotate_left
    · intro w hSw
      (try dsimp only at hSw)
      go_simp
      (try with_reducible rfl)
    try simp only [Act.put, List.setIfInBounds_toArray, List.set_cons_zero, List.set_cons_succ]
    refine wpAnyH_done (by kernel_rfl) ?_ _
    go_wp2
    all_goals (go_ret; exact ⟨rfl, HB0.out.trans (HBc.mono hs1)⟩)
theorem may28_any (pv av ev : Value) (c : Cor) (w : World) (vp : Rd w pv c.P.length 3 (ptCells c.P)) (va : Rd w av c.A.length 3 (ptCells c.A)) (ve : Rd w ev c.E.length 3 (ptCells c.E)) :
    Calls Try.prog 28 #[corV pv av ev c.r] w fun e w' => e = .returned (.bool (mayB c)) ∧ Below w.heap.size w w' := by
  have no : ∀ b : Bool, mayB c = b → (Calls Try.prog 28 #[corV pv av ev c.r] w fun e w' => e = .returned (.bool b) ∧ Below w.heap.size w w') → Calls Try.prog 28 #[corV pv av ev c.r] w fun e w' => e = .returned (.bool (mayB c)) ∧ Below w.heap.size w w' := by
    intro b hb h
    rw [hb]
    exact h
  by_cases h0 : 0 < c.P.length
  case neg => exact no false (by simp [mayB, h0]) (may28_0 pv av ev _ _ _ c w rfl rfl rfl vp va ve h0)
  by_cases h1 : c.P.length ≤ 32
  case neg => exact no false (by simp [mayB, h1]) (may28_1 pv av ev _ _ _ c w rfl rfl rfl vp va ve h0 h1)
  by_cases h2 : c.A.length ≤ 128 ∧ c.E.length ≤ 128
  case neg => exact no false (by unfold mayB; rw [Bool.eq_false_iff]; intro hh; simp only [Bool.and_eq_true, decide_eq_true_eq] at hh; exact h2 ⟨hh.1.1.1.1.1.1.2, hh.1.1.1.1.1.2⟩) (may28_2 pv av ev _ _ _ c w rfl rfl rfl vp va ve h0 h1 h2)
  by_cases h3 : 0 ≤ c.r
  case neg => exact no false (by simp [mayB, h3]) (may28_3 pv av ev _ _ _ c w rfl rfl rfl vp va ve h0 h1 h2 h3)
  by_cases h4 : c.r ≤ 65536
  case neg => exact no false (by simp [mayB, h4]) (may28_4 pv av ev _ _ _ c w rfl rfl rfl vp va ve h0 h1 h2 h3 h4)
  cases h5 : c.P.all (nearB 16777216) with
  | false => exact no false (by simp only [mayB, h5, Bool.and_false, Bool.false_and]) (may28_5 pv av ev _ _ _ c w rfl rfl rfl vp va ve h0 h1 h2 h3 h4 h5)
  | true =>
    cases h6 : c.A.all (nearB 1048576) with
    | false => exact no false (by simp only [mayB, h6, Bool.and_false, Bool.false_and]) (may28_6 pv av ev _ _ _ c w rfl rfl rfl vp va ve h0 h1 h2 h3 h4 h5 h6)
    | true =>
      cases h7 : c.E.all (nearB 1048576) with
      | false => exact no false (by simp only [mayB, h7, Bool.and_false]) (may28_7 pv av ev _ _ _ c w rfl rfl rfl vp va ve h0 h1 h2 h3 h4 h5 h6 h7)
      | true => exact no true (by simp only [mayB, h5, h6, h7, decide_eq_true h0, decide_eq_true h1, decide_eq_true h2.1, decide_eq_true h2.2, decide_eq_true h3, decide_eq_true h4, Bool.and_self]) (may28_8 pv av ev _ _ _ c w rfl rfl rfl vp va ve h0 h1 h2 h3 h4 h5 h6 h7)
end Go.Proofs.Ytpbpdgknjbjlcaa
