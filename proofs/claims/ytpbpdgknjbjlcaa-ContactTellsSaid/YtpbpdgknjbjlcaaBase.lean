/- Memory words for the walks: a block known whole, what a call may turn, a slice that reads as a list. No program here. -/
import Derived.WalkKit
import Derived.Below
import Derived.OwnWalk
import Derived.LoopTactic
import Derived.Outline
import Derived.RowKit3
import Derived.Lib.Hide
import Derived.Laws.OwnMore
import Derived.Deep.Quiet
namespace Go.Proofs.Ytpbpdgknjbjlcaa
open Go.RowKit

/-- Block b holds just these cells, none of them frozen. -/
def Blk (w : World) (b : Nat) (t : TypeId) (vs : List Value) : Prop := w.heap[b]? = some (.cells vs.toArray t (0, 0))

/-- Of what was there only blocks of S have turned; there may be new ones. -/
structure Mod (S : Nat → Prop) (w w' : World) : Prop where
  os : w'.os = w.os
  tape : w'.tape = w.tape
  output : w'.output = w.output
  size : w.heap.size ≤ w'.heap.size
  block : ∀ k, k < w.heap.size → ¬ S k → w'.heap[k]? = w.heap[k]?

theorem Mod.refl (S : Nat → Prop) (w : World) : Mod S w w := ⟨rfl, rfl, rfl, Nat.le_refl _, fun _ _ _ => rfl⟩
theorem Mod.trans {S : Nat → Prop} {a b c : World} (h : Mod S a b) (k : Mod S b c) : Mod S a c :=
  ⟨k.os.trans h.os, k.tape.trans h.tape, k.output.trans h.output, Nat.le_trans h.size k.size, fun i hi hs => (k.block i (Nat.lt_of_lt_of_le hi h.size) hs).trans (h.block i hi hs)⟩
theorem Mod.mono {S T : Nat → Prop} {w w' : World} (h : Mod S w w') (hst : ∀ k, k < w.heap.size → S k → T k) : Mod T w w' :=
  ⟨h.os, h.tape, h.output, h.size, fun k hk ht => h.block k hk fun hs => ht (hst k hk hs)⟩
theorem Mod.below {S : Nat → Prop} {w w' : World} (h : Mod S w w') {B : Nat} (hB : B ≤ w.heap.size) (hs : ∀ k, k < B → ¬ S k) : Below B w w' :=
  ⟨h.os, h.tape, h.output, h.size, fun k hk => h.block k (by omega) (hs k hk)⟩
theorem Mod.of_below {S : Nat → Prop} {w w' : World} {B : Nat} (h : Below B w w') (hs : ∀ k, B ≤ k → k < w.heap.size → S k) : Mod S w w' :=
  ⟨h.os, h.tape, h.output, h.size, fun k hk ht => h.block k (by rcases Nat.lt_or_ge k B with h1 | h1; exact h1; exact (ht (hs k h1 hk)).elim)⟩
theorem Mod.drew {S : Nat → Prop} {a w : World} (h : Mod S a w) : Mod S a w.drew := ⟨h.os, h.tape, h.output, h.size, h.block⟩
theorem Mod.alloc {S : Nat → Prop} {a w : World} (h : Mod S a w) (o : Obj) : Mod S a (w.alloc o) :=
  h.trans ⟨rfl, rfl, rfl, by simp, fun k hk _ => Below.heap_alloc _ _ _ (by omega)⟩
theorem Mod.setCell {S : Nat → Prop} {a w : World} (h : Mod S a w) {p : Addr} (hp : p.block < a.heap.size → S p.block) (u : Value) : Mod S a (w.setCell p u) :=
  ⟨h.os, h.tape, h.output, by simpa [World.setCell] using h.size, fun k hk hs => (Below.heap_setCell _ _ _ _ (fun e => hs (by subst e; exact hp hk))).trans (h.block k hk hs)⟩
theorem Mod.grown {S : Nat → Prop} {a w w' : World} {row : Option Nat} (h : Mod S a w) (hg : w.grownBy w' row) (hr : ∀ k, row = some k → k < a.heap.size → S k) : Mod S a w' :=
  ⟨hg.os.trans h.os, hg.tape.trans h.tape, hg.output.trans h.output, Nat.le_trans h.size hg.size, fun k hk hs => (hg.block k (Nat.lt_of_lt_of_le hk h.size) (fun e => hs (hr k e.symm hk))).trans (h.block k hk hs)⟩

theorem Blk.lt {w : World} {b : Nat} {t : TypeId} {vs : List Value} (h : Blk w b t vs) : b < w.heap.size := by
  unfold Blk at h; exact (Array.getElem?_eq_some_iff.1 h).1
theorem Blk.cell {w : World} {b : Nat} {t : TypeId} {vs : List Value} (h : Blk w b t vs) (i : Nat) : w.cell? ⟨b, i, none⟩ = vs[i]? := by
  unfold Blk at h; simp [World.cell?, h]
theorem Blk.frozen {w : World} {b : Nat} {t : TypeId} {vs : List Value} (h : Blk w b t vs) (i : Nat) : w.frozen? ⟨b, i, none⟩ = false := by
  unfold Blk at h; simp [World.frozen?, h]
theorem Blk.set {w : World} {b : Nat} {t : TypeId} {vs : List Value} (h : Blk w b t vs) (i : Nat) (v : Value) : Blk (w.setCell ⟨b, i, none⟩ v) b t (vs.set i v) := by
  unfold Blk at *; simp [World.setCell, Array.getElem?_modify, h]
theorem Blk.mod {S : Nat → Prop} {w w' : World} {b : Nat} {t : TypeId} {vs : List Value} (h : Blk w b t vs) (hm : Mod S w w') (hs : ¬ S b) : Blk w' b t vs := by
  have := hm.block b h.lt hs; unfold Blk at *; rw [this]; exact h
theorem Blk.below {w w' : World} {b B : Nat} {t : TypeId} {vs : List Value} (h : Blk w b t vs) (hm : Below B w w') (hs : b < B) : Blk w' b t vs := by
  have := hm.block b hs; unfold Blk at *; rw [this]; exact h
theorem Blk.alloc {w : World} {b : Nat} {t : TypeId} {vs : List Value} (h : Blk w b t vs) (o : Obj) : Blk (w.alloc o) b t vs := by
  have := Below.heap_alloc w o b h.lt; unfold Blk at *; rw [this]; exact h
theorem Blk.drew {w : World} {b : Nat} {t : TypeId} {vs : List Value} (h : Blk w b t vs) : Blk w.drew b t vs := h
theorem Blk.setCell_ne {w : World} {b : Nat} {t : TypeId} {vs : List Value} (h : Blk w b t vs) {p : Addr} (hp : b ≠ p.block) (u : Value) : Blk (w.setCell p u) b t vs := by
  unfold Blk at *; rw [Below.heap_setCell _ _ _ _ hp]; exact h
theorem Blk.new (w : World) (t : TypeId) (vs : List Value) : Blk (w.alloc (.cells vs.toArray t)) w.heap.size t vs := by
  unfold Blk; show (w.heap.push _)[w.heap.size]? = _; simp
theorem Blk.newAt {w : World} {b : Nat} (h : w.heap.size = b) (t : TypeId) (vs : List Value) : Blk (w.alloc (.cells vs.toArray t)) b t vs := by subst h; exact Blk.new w t vs

/-- A slice value of n elements of sz cells each reads as these cells. -/
def Rd (w : World) (v : Value) (n sz : Nat) (xs : List Value) : Prop :=
  ∃ ao cap, v = .slice ao n cap ∧ xs.length = n * sz ∧ n ≤ cap ∧ cap ≤ maxLen ∧ (n ≠ 0 → ∃ b off, ao = some ⟨b, off, none⟩ ∧ b < w.heap.size ∧ ∀ i, i < n * sz → w.cell? ⟨b, off + i, none⟩ = xs[i]?)

theorem Rd.same {w w' : World} {v : Value} {n sz : Nat} {xs : List Value} (h : Rd w v n sz xs) (hz : w.heap.size ≤ w'.heap.size) (hb : ∀ b, v.ownBlock = some b → b < w.heap.size → w'.heap[b]? = w.heap[b]?) : Rd w' v n sz xs := by
  obtain ⟨ao, cap, rfl, h1, h2, h2', h3⟩ := h
  refine ⟨ao, cap, rfl, h1, h2, h2', fun hn => ?_⟩
  obtain ⟨b, off, rfl, hlt, hc⟩ := h3 hn
  exact ⟨b, off, rfl, by omega, fun i hi => (World.cell?_of_block (w := w) (hb b rfl hlt)).trans (hc i hi)⟩
theorem Rd.mod {S : Nat → Prop} {w w' : World} {v : Value} {n sz : Nat} {xs : List Value} (h : Rd w v n sz xs) (hm : Mod S w w') (hs : ∀ b, v.ownBlock = some b → ¬ S b) : Rd w' v n sz xs :=
  h.same hm.size fun b hb hlt => hm.block b hlt (hs b hb)
theorem Rd.below {w w' : World} {v : Value} {n sz B : Nat} {xs : List Value} (h : Rd w v n sz xs) (hm : Below B w w') (hs : ∀ b, v.ownBlock = some b → b < B) : Rd w' v n sz xs :=
  h.same hm.size fun b hb _ => hm.block b (hs b hb)
theorem Rd.new {w w' : World} {v : Value} {n sz : Nat} {xs : List Value} (h : Rd w v n sz xs) (hm : Below w.heap.size w w') : Rd w' v n sz xs :=
  h.same hm.size fun b _ hlt => hm.block b hlt
theorem Rd.of_own {w : World} {base : Nat} {e : TypeId} {v : Value} {n sz : Nat} {xs : List Value} (h : w.ownsRow base e sz v n xs) : Rd w v n sz xs := by
  obtain ⟨h1, h2⟩ := h
  rcases h2 with ⟨rfl, rfl⟩ | ⟨g, cap, cur, rfl, hg, hh, hn, hm, hsz, hx⟩
  · exact ⟨none, 0, rfl, h1, Nat.le_refl _, by decide, fun h => (h rfl).elim⟩
  · refine ⟨_, cap, rfl, h1, hn, hm, fun _ => ⟨g, 0, rfl, (Array.getElem?_eq_some_iff.1 hh).1, fun i hi => ?_⟩⟩
    simp only [World.cell?, hh, Nat.zero_add]
    simp only [Option.isSome_none, Bool.false_eq_true, if_false]
    rw [← hx, List.getElem?_take_of_lt hi]; simp
theorem Rd.nil (w : World) (ao : Option Addr) (cap sz : Nat) (hc : cap ≤ maxLen) : Rd w (.slice ao 0 cap) 0 sz [] := ⟨ao, cap, rfl, by simp, Nat.zero_le _, hc, fun h => (h rfl).elim⟩
theorem ownsRow_blk {w : World} {b : Nat} {t : TypeId} {vs : List Value} {n sz : Nat} (h : Blk w b t vs) (hl : vs.length = n * sz) (hm : n ≤ maxLen) {base : Nat} (hb : base ≤ b) : w.ownsRow base t sz (.slice (some ⟨b, 0, none⟩) n n) n vs := by
  refine ⟨hl, .inr ⟨b, n, vs.toArray, rfl, hb, h, Nat.le_refl _, hm, by simpa using hl, ?_⟩⟩
  rw [← hl]; simp

theorem Blk.grown {w w' : World} {b : Nat} {t : TypeId} {vs : List Value} {row : Option Nat} (h : Blk w b t vs) (hg : w.grownBy w' row) (hr : row ≠ some b) : Blk w' b t vs := by
  have := hg.block b h.lt (Ne.symm hr); unfold Blk at *; rw [this]; exact h
theorem Rd.alloc {w : World} {v : Value} {n sz : Nat} {xs : List Value} (h : Rd w v n sz xs) (o : Obj) : Rd (w.alloc o) v n sz xs := h.new ((Below.refl _ _).alloc (Nat.le_refl _) _)
theorem Rd.drew {w : World} {v : Value} {n sz : Nat} {xs : List Value} (h : Rd w v n sz xs) : Rd w.drew v n sz xs := h.new ((Below.refl _ _).drew)
theorem Rd.drewN {w : World} {v : Value} {n sz : Nat} {xs : List Value} (h : Rd w v n sz xs) (j : Nat) : Rd (w.drewN j) v n sz xs := h.same (Nat.le_refl _) fun _ _ _ => rfl
theorem Blk.drewN {w : World} {b : Nat} {t : TypeId} {vs : List Value} (h : Blk w b t vs) (j : Nat) : Blk (w.drewN j) b t vs := h
theorem Rd.at {w : World} {b off n cap sz : Nat} {xs : List Value} (h : Rd w (.slice (some ⟨b, off, none⟩) n cap) n sz xs) {i : Nat} (hi : i < n * sz) : w.cell? ⟨b, off + i, none⟩ = xs[i]? := by
  obtain ⟨ao, c, e, h1, h2, h3, h4⟩ := h
  obtain ⟨b', off', e2, h5, h6⟩ := h4 (by intro e; subst e; simp at hi)
  subst e2
  simp only [Value.slice.injEq, Option.some.injEq, Addr.mk.injEq, and_true, true_and] at e
  obtain ⟨⟨rfl, rfl⟩, _⟩ := e
  exact h6 i hi
theorem Mod.cell {S : Nat → Prop} {w w' : World} (h : Mod S w w') {p : Addr} (hp : p.block < w.heap.size) (hs : ¬ S p.block) : w'.cell? p = w.cell? p := World.cell?_of_block (w := w) (h.block p.block hp hs)
theorem Mod.frozen {S : Nat → Prop} {w w' : World} (h : Mod S w w') {p : Addr} (hp : p.block < w.heap.size) (hs : ¬ S p.block) : w'.frozen? p = w.frozen? p := World.frozen?_of_block (w := w) (h.block p.block hp hs)
theorem own_blk {w : World} {base g : Nat} {e : TypeId} {n sz : Nat} {xs : List Value} (h : w.ownsRow base e sz (.slice (some ⟨g, 0, none⟩) n n) n xs) : Blk w g e xs := by
  obtain ⟨h1, h2⟩ := h
  rcases h2 with ⟨h2, _⟩ | ⟨g', cap, cur, hv, hg, hh, hn, hm, hsz, hx⟩
  · cases h2
  · simp only [Value.slice.injEq, Option.some.injEq, Addr.mk.injEq, and_true] at hv
    obtain ⟨rfl, _, rfl⟩ := hv
    unfold Blk
    rw [hh, ← hx, ← hsz, ← Array.length_toList, List.take_length]
/-- It reads so, and lies (if anywhere) in a block from base on. -/
def RdN (base : Nat) (w : World) (v : Value) (n sz : Nat) (xs : List Value) : Prop := Rd w v n sz xs ∧ ∀ b, v.ownBlock = some b → base ≤ b
theorem ownBlock_ge {w : World} {base : Nat} {e : TypeId} {v : Value} {n sz : Nat} {xs : List Value} (h : w.ownsRow base e sz v n xs) {r : Nat} (hr : v.ownBlock = some r) : base ≤ r := by
  rcases h.2 with ⟨rfl, rfl⟩ | ⟨g, cap, cur, rfl, hg, _⟩
  · simp [Value.ownBlock] at hr
  · simp [Value.ownBlock] at hr; omega
theorem RdN.of_own {w : World} {base : Nat} {e : TypeId} {v : Value} {n sz : Nat} {xs : List Value} (h : w.ownsRow base e sz v n xs) : RdN base w v n sz xs := ⟨Rd.of_own h, fun _ hb => ownBlock_ge h hb⟩
abbrev ints (xs : List Int) : List Value := xs.map (Value.int .i64)
abbrev bools (xs : List Bool) : List Value := xs.map Value.bool
theorem ints_get {xs : List Int} {i : Nat} (h : i < xs.length) : (ints xs)[i]? = some (.int .i64 (xs[i]?.getD 0)) := by
  simp [ints, List.getElem?_eq_getElem h]
theorem bools_get {xs : List Bool} {i : Nat} (h : i < xs.length) : (bools xs)[i]? = some (.bool (xs[i]?.getD false)) := by
  simp [bools, List.getElem?_eq_getElem h]
theorem ret_int {k : IntKind} {a b : Int} (h : a = b) : Ending.returned (.int k a) = .returned (.int k b) := by rw [h]
theorem ret_bool {a b : Bool} (h : a = b) : Ending.returned (.bool a) = .returned (.bool b) := by rw [h]

/-- A new row of z's that is filled from the left with g's elements: k are there. -/
def fillTo (g : List Value) (z : Value) (k : Nat) : List Value := g.take k ++ List.replicate (g.length - k) z
theorem fillTo_zero (g : List Value) (z : Value) : fillTo g z 0 = List.replicate g.length z := by simp [fillTo]
theorem fillTo_all (g : List Value) (z : Value) : fillTo g z g.length = g := by simp [fillTo]
theorem fillTo_len (g : List Value) (z : Value) (k : Nat) (h : k ≤ g.length) : (fillTo g z k).length = g.length := by simp [fillTo]; omega
theorem fillTo_get (g : List Value) (z : Value) (k : Nat) (h : k < g.length) : (fillTo g z k)[k]? = some z := by
  unfold fillTo
  obtain ⟨m, hm⟩ : ∃ m, g.length = k + 1 + m := ⟨g.length - k - 1, by omega⟩
  rw [show g.length - k = m + 1 from by omega, List.getElem?_append_right (by rw [List.length_take]; omega)]
  simp [show min k g.length = k from by omega, List.replicate_succ]
theorem fillTo_set (g : List Value) (z u : Value) (k : Nat) (h : g[k]? = some u) : (fillTo g z k).set k u = fillTo g z (k + 1) := by
  obtain ⟨hk, hu⟩ := List.getElem?_eq_some_iff.1 h
  unfold fillTo
  obtain ⟨m, hm⟩ : ∃ m, g.length = k + 1 + m := ⟨g.length - k - 1, by omega⟩
  rw [show g.length - k = m + 1 from by omega, show g.length - (k + 1) = m from by omega, List.set_append]
  simp [show min k g.length = k from by omega, List.replicate_succ]
  rw [List.take_succ_eq_append_getElem hk, hu]
  simp only [List.append_assoc, List.singleton_append]
theorem made_cells (z : Value) (hz : z.cells = #[z]) (n : Nat) : (madeCells z.cells (n * 1)).toList = List.replicate n z := by
  rw [Nat.mul_one, hz, toList_madeCells_one]
end Go.Proofs.Ytpbpdgknjbjlcaa
