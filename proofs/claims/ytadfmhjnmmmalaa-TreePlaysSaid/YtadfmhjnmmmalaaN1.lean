/- A tree in memory: its struct, its arena of nodes, its free numbers, its map. -/
import Derived.Test.YtadfmhjnmmmalaaA2
namespace Go.Proofs.Ytadfmhjnmmmalaa
open Go.RowKit Go.Maps
def Nd.cells (x : Nd) : List Value := [.int .i64 x.b.x0, .int .i64 x.b.y0, .int .i64 x.b.z0, .int .i64 x.b.x1, .int .i64 x.b.y1, .int .i64 x.b.z1, .int .i64 x.up, .int .i64 x.left, .int .i64 x.right, .int .i64 x.h]
abbrev ndV (x : Nd) : Value := .agg #[.int .i64 x.b.x0, .int .i64 x.b.y0, .int .i64 x.b.z0, .int .i64 x.b.x1, .int .i64 x.b.y1, .int .i64 x.b.z1, .int .i64 x.up, .int .i64 x.left, .int .i64 x.right, .int .i64 x.h]
def flat (ns : List Nd) : List Value := ns.flatMap Nd.cells
theorem flat_cons (x : Nd) (ns : List Nd) : flat (x :: ns) = x.cells ++ flat ns := rfl
theorem flat_append (a b : List Nd) : flat (a ++ b) = flat a ++ flat b := by simp [flat]
theorem nflat_len : ∀ ns : List Nd, (flat ns).length = ns.length * 10
  | [] => rfl
  | x :: ns => by
    have := nflat_len ns
    rw [flat_cons, List.length_append, this]
    show 10 + _ = _
    rw [List.length_cons]
    omega
theorem nflat_get : ∀ {ns : List Nd} {j : Nat} {x : Nd} (c : Nat), ns[j]? = some x → c < 10 → (flat ns)[j * 10 + c]? = x.cells[c]?
  | [], _, _, _, h, _ => by cases h
  | y :: ns, 0, x, c, h, hc => by
    simp only [List.getElem?_cons_zero, Option.some.injEq] at h
    subst h
    rw [flat_cons, Nat.zero_mul, Nat.zero_add, List.getElem?_append_left (by exact hc)]
  | y :: ns, j + 1, x, c, h, hc => by
    simp only [List.getElem?_cons_succ] at h
    rw [flat_cons, List.getElem?_append_right (by show 10 ≤ _; omega), ← nflat_get c h hc]
    congr 1
    show (j + 1) * 10 + c - 10 = _
    omega
theorem flat_one (ns : List Nd) : ∀ u ∈ flat ns, u.oneCell' = true := by
  intro u hu
  obtain ⟨x, _, h⟩ := List.mem_flatMap.1 hu
  simp only [Nd.cells, List.mem_cons, List.not_mem_nil, or_false] at h
  rcases h with rfl | rfl | rfl | rfl | rfl | rfl | rfl | rfl | rfl | rfl <;> rfl
/-- Cells laid from place k on. -/
def sets (us : List (Nat × Value)) (k : Nat) (xs : List Value) : List Value := us.foldl (fun xs p => xs.set (k + p.1) p.2) xs
def wsets (w : World) (g k : Nat) (us : List (Nat × Value)) : World := us.foldl (fun w p => w.setCell ⟨g, k + p.1, none⟩ p.2) w
theorem sets_left : ∀ (us : List (Nat × Value)) (k : Nat) (xs ys : List Value), (∀ p ∈ us, k + p.1 < xs.length) → sets us k (xs ++ ys) = sets us k xs ++ ys
  | [], _, _, _, _ => rfl
  | p :: us, k, xs, ys, h => by
    have h1 := h p (List.mem_cons_self ..)
    show sets us k ((xs ++ ys).set (k + p.1) p.2) = sets us k (xs.set (k + p.1) p.2) ++ ys
    rw [List.set_append_left _ _ h1, sets_left us k _ ys (fun q hq => by rw [List.length_set]; exact h q (List.mem_cons_of_mem _ hq))]
theorem sets_right : ∀ (us : List (Nat × Value)) (k : Nat) (xs ys : List Value), sets us (xs.length + k) (xs ++ ys) = xs ++ sets us k ys
  | [], _, _, _ => rfl
  | p :: us, k, xs, ys => by
    show sets us (xs.length + k) ((xs ++ ys).set (xs.length + k + p.1) p.2) = xs ++ sets us k (ys.set (k + p.1) p.2)
    rw [List.set_append_right _ _ (by omega), show xs.length + k + p.1 - xs.length = k + p.1 by omega, sets_right us k xs _]
theorem flat_sets (f : Nd → Nd) (us : List (Nat × Value)) (hu : ∀ p ∈ us, p.1 < 10) : ∀ (ns : List Nd) (j : Nat) (x : Nd), ns[j]? = some x → sets us 0 x.cells = (f x).cells → sets us (j * 10) (flat ns) = flat (ns.modify j f)
  | [], _, _, h, _ => by cases h
  | y :: ns, 0, x, h, hx => by
    simp only [List.getElem?_cons_zero, Option.some.injEq] at h
    subst h
    rw [flat_cons, Nat.zero_mul, sets_left us 0 _ _ (fun p hp => by rw [Nat.zero_add]; exact hu p hp), hx]
    rfl
  | y :: ns, j + 1, x, h, hx => by
    simp only [List.getElem?_cons_succ] at h
    rw [flat_cons, show (j + 1) * 10 = y.cells.length + j * 10 by show _ = 10 + _; omega, sets_right, flat_sets f us hu ns j x h hx]
    rfl
theorem own_setk {w : World} {base e sz g n cap k : Nat} {xs : List Value} (h : w.ownsRow base e sz (.slice (some ⟨g, 0, none⟩) n cap) n xs) (hk : k < n * sz) (u : Value) : (w.setCell ⟨g, k, none⟩ u).ownsRow base e sz (.slice (some ⟨g, 0, none⟩) n cap) n (xs.set k u) := by
  obtain ⟨h1, h2⟩ := h
  refine ⟨by rw [List.length_set]; exact h1, .inr ?_⟩
  rcases h2 with ⟨h0, _⟩ | ⟨g', cap', cur, hv, hg, hh, hn, hm, hs, hx⟩
  · cases h0
  · cases hv
    have hc : k < cap * sz := Nat.lt_of_lt_of_le hk (Nat.mul_le_mul_right _ hn)
    have hB : Blk w g e cur.toList := by unfold Blk; rw [hh]
    have hB2 := hB.set k u
    unfold Blk at hB2
    refine ⟨g, cap, _, rfl, hg, hB2, hn, hm, by simp [hs], ?_⟩
    rw [← hx]
    simp [List.take_set]
theorem own_wsets : ∀ (us : List (Nat × Value)) {w : World} {base e sz g n cap k : Nat} {xs : List Value}, w.ownsRow base e sz (.slice (some ⟨g, 0, none⟩) n cap) n xs → (∀ p ∈ us, k + p.1 < n * sz) → (wsets w g k us).ownsRow base e sz (.slice (some ⟨g, 0, none⟩) n cap) n (sets us k xs)
  | [], _, _, _, _, _, _, _, _, _, h, _ => h
  | p :: us, _, _, _, _, _, _, _, _, _, h, hu => own_wsets us (own_setk h (hu p (List.mem_cons_self ..)) p.2) (fun q hq => hu q (List.mem_cons_of_mem _ hq))
/-- A number's place among the nodes. -/
theorem own_addr {w : World} {base e sz n : Nat} {v : Value} {xs : List Value} (h : w.ownsRow base e sz v n xs) (hn : n ≠ 0) : ∃ g cap, v = .slice (some ⟨g, 0, none⟩) n cap := by
  rcases h.2 with ⟨_, h0⟩ | ⟨g, cap, cur, hv, _⟩
  · exact absurd h0 hn
  · exact ⟨g, cap, hv⟩
theorem own_ne {w : World} {base e n sz b : Nat} {v : Value} {t : TypeId} {xs vs : List Value} (h : w.ownsRow base e sz v n xs) (hb : Blk w b t vs) (hte : t ≠ e) : v.ownBlock ≠ some b := by
  intro e1
  rcases h.2 with ⟨rfl, _⟩ | ⟨g, cap, cur, rfl, _, hh, _⟩
  · simp [Value.ownBlock] at e1
  · simp [Value.ownBlock] at e1; subst e1
    exact blk_ne_cells hb hh hte rfl
def nats (fr : List Nat) : List Int := fr.map fun (i : Nat) => (i : Int)
abbrev MapR (w : World) (mb n : Nat) (D : DataW Unit) : Prop := w.ownsMap Try.prog 30 (plainElem (H := Unit) Try.prog 3) mb n D
/-- A tree in memory. -/
def Raw (w : World) (t : Nat) (vn vf : Value) (mb : Nat) (room : Int) (ns : List Nd) (fr : List Nat) (root : Int) (n : Nat) (D : DataW Unit) : Prop :=
  Blk w t 72 [.int .i64 room, vn, vf, .int .i64 root, .map (some mb)] ∧ w.ownsRow 0 79 10 vn ns.length (flat ns) ∧ w.ownsRow 0 3 1 vf fr.length (ints (nats fr)) ∧ MapR w mb n D
/-- Its blocks. -/
def Foot (t : Nat) (vn vf : Value) (mb : Nat) (j : Nat) : Prop := j = t ∨ vn.ownBlock = some j ∨ vf.ownBlock = some j ∨ j = mb
/-- Only blocks of S turn; behind, what is of S' was of S or is new. -/
def Turn (S S' : Nat → Prop) (w w' : World) : Prop := Mod S w w' ∧ ∀ j, S' j → S j ∨ w.heap.size ≤ j
theorem Turn.trans {S S' S'' : Nat → Prop} {a b c : World} (h : Turn S S' a b) (k : Turn S' S'' b c) : Turn S S'' a c := by
  have hs := h.1.size
  refine ⟨⟨k.1.os.trans h.1.os, k.1.tape.trans h.1.tape, k.1.output.trans h.1.output, Nat.le_trans hs k.1.size, fun j hj hS => ?_⟩, fun j hj => ?_⟩
  · rw [k.1.block j (Nat.lt_of_lt_of_le hj hs) (fun h2 => by
      rcases h.2 j h2 with h3 | h3
      · exact hS h3
      · omega)]
    exact h.1.block j hj hS
  · rcases k.2 j hj with h2 | h2
    · exact h.2 j h2
    · exact .inr (Nat.le_trans hs h2)
theorem Turn.refl (S : Nat → Prop) (w : World) : Turn S S w w := ⟨Mod.refl _ _, fun _ h => .inl h⟩
theorem Turn.of_below (S : Nat → Prop) {w w' : World} (h : Below w.heap.size w w') : Turn S S w w' := ⟨⟨h.os, h.tape, h.output, h.size, fun j hj _ => h.block j hj⟩, fun _ h => .inl h⟩
theorem Raw.lt {w : World} {t : Nat} {vn vf : Value} {mb : Nat} {room : Int} {ns : List Nd} {fr : List Nat} {root : Int} {n : Nat} {D : DataW Unit} (h : Raw w t vn vf mb room ns fr root n D) : ∀ j, Foot t vn vf mb j → j < w.heap.size := by
  rintro j (rfl | h1 | h1 | rfl)
  · exact h.1.lt
  · exact own_lt h.2.1 h1
  · exact own_lt h.2.2.1 h1
  · exact h.2.2.2.lt
/-- Blocks that are none of its turn. -/
theorem Raw.mod {S : Nat → Prop} {w w' : World} {t : Nat} {vn vf : Value} {mb : Nat} {room : Int} {ns : List Nd} {fr : List Nat} {root : Int} {n : Nat} {D : DataW Unit} (h : Raw w t vn vf mb room ns fr root n D) (hM : Mod S w w') (hS : ∀ j, Foot t vn vf mb j → ¬ S j) : Raw w' t vn vf mb room ns fr root n D := by
  have hl := h.lt
  have hb : ∀ j, Foot t vn vf mb j → w'.heap[j]? = w.heap[j]? := fun j hj => hM.block j (hl j hj) (hS j hj)
  obtain ⟨h1, h2, h3, h4⟩ := h
  refine ⟨by unfold Blk at *; rw [hb t (.inl rfl)]; exact h1, own_keep h2 (fun g _ e _ => hb g (.inr (.inl e))), own_keep h3 (fun g _ e _ => hb g (.inr (.inr (.inl e)))), ?_⟩
  obtain ⟨es, clock, hh, r⟩ := h4
  exact ⟨es, clock, by rw [hb mb (.inr (.inr (.inr rfl)))]; exact hh, r⟩
theorem Raw.below {w w' : World} {t : Nat} {vn vf : Value} {mb : Nat} {room : Int} {ns : List Nd} {fr : List Nat} {root : Int} {n : Nat} {D : DataW Unit} (h : Raw w t vn vf mb room ns fr root n D) (hB : Below w.heap.size w w') : Raw w' t vn vf mb room ns fr root n D :=
  h.mod (S := fun j => w.heap.size ≤ j) ⟨hB.os, hB.tape, hB.output, hB.size, fun j hj _ => hB.block j hj⟩ (fun j hj hS => by have := h.lt j hj; omega)
theorem own_cells {w : World} {base e n sz g : Nat} {v : Value} {xs : List Value} (h : w.ownsRow base e sz v n xs) (e1 : v.ownBlock = some g) : ∃ cur, w.heap[g]? = some (.cells cur e (0, 0)) := by
  rcases h.2 with ⟨rfl, _⟩ | ⟨g', cap, cur, rfl, _, hh, _⟩
  · simp [Value.ownBlock] at e1
  · simp [Value.ownBlock] at e1; subst e1; exact ⟨cur, hh⟩
theorem own_modk {S : Nat → Prop} {w w' : World} {base e sz n : Nat} {v : Value} {xs : List Value} (h : w.ownsRow base e sz v n xs) (hM : Mod S w w') (hS : ∀ j cur, S j → w.heap[j]? ≠ some (.cells cur e (0, 0))) : w'.ownsRow base e sz v n xs :=
  own_keep h fun g cur _ hh => hM.block g (Array.getElem?_eq_some_iff.1 hh).1 (fun hs => hS g cur hs hh)
theorem map_modk {S : Nat → Prop} {w w' : World} {mb n : Nat} {D : DataW Unit} (h : MapR w mb n D) (hM : Mod S w w') (hS : ∀ j es c, S j → w.heap[j]? ≠ some (.map es c)) : MapR w' mb n D := by
  obtain ⟨es, clock, hh, r⟩ := h
  exact ⟨es, clock, by rw [hM.block mb (Array.getElem?_eq_some_iff.1 hh).1 (fun hs => hS mb es clock hs hh)]; exact hh, r⟩
theorem blk_not {w : World} {b : Nat} {t : TypeId} {vs : List Value} (h : Blk w b t vs) : (∀ cur e, t ≠ e → w.heap[b]? ≠ some (.cells cur e (0, 0))) ∧ ∀ es c, w.heap[b]? ≠ some (.map es c) := by
  unfold Blk at h
  refine ⟨fun cur e hne h2 => ?_, fun es c h2 => ?_⟩
  · rw [h] at h2; simp at h2; exact hne h2.2
  · rw [h] at h2; cases h2
theorem own_not {w : World} {base e n sz g : Nat} {v : Value} {xs : List Value} (h : w.ownsRow base e sz v n xs) (e1 : v.ownBlock = some g) : (∀ cur e', e ≠ e' → w.heap[g]? ≠ some (.cells cur e' (0, 0))) ∧ ∀ es c, w.heap[g]? ≠ some (.map es c) := by
  obtain ⟨cur0, h0⟩ := own_cells h e1
  refine ⟨fun cur e' hne h2 => ?_, fun es c h2 => ?_⟩
  · rw [h0] at h2; simp at h2; exact hne h2.2
  · rw [h0] at h2; cases h2
theorem map_not {w : World} {mb n : Nat} {D : DataW Unit} (h : MapR w mb n D) : ∀ cur e, w.heap[mb]? ≠ some (.cells cur e (0, 0)) := by
  obtain ⟨es, clock, hh, r⟩ := h
  intro cur e h2
  rw [hh] at h2; cases h2
end Go.Proofs.Ytadfmhjnmmmalaa
