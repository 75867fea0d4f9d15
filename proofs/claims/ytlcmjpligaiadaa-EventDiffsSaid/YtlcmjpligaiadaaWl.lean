/- PairsPlay: two sets and the reference's two, all apart; a pair in a block of its own. -/
import Derived.Test.YtlcmjpligaiadaaWk
namespace Go.Proofs.Ytlcmjpligaiadaa
open Go.RowKit
/-- All feet of two sets and of two of the reference's. -/
def Feet (s r t q : Nat) (vs vr vt vq : Value) (j : Nat) : Prop := Foot s vs j ∨ Foot r vr j ∨ Foot t vt j ∨ Foot q vq j
structure Quad (w W : World) (s r t q : Nat) (vs vr vt vq : Value) (m n : Nat) (a a' b b' : List Pr) : Prop where
  bel : Below w.heap.size w W
  ss : SetAt W s w.heap.size vs m a
  sr : RefAt W r w.heap.size vr m a'
  st : SetAt W t w.heap.size vt n b
  sq : RefAt W q w.heap.size vq n b'
  d1 : ∀ j, Foot s vs j → ¬ (Foot r vr j ∨ Foot t vt j ∨ Foot q vq j)
  d2 : ∀ j, Foot r vr j → ¬ (Foot t vt j ∨ Foot q vq j)
  d3 : ∀ j, Foot t vt j → ¬ Foot q vq j
  hi : ∀ j, Feet s r t q vs vr vt vq j → w.heap.size ≤ j
section
variable {w W W' : World} {s r t q : Nat} {vs vr vt vq : Value} {m n : Nat} {a a' b b' : List Pr}
theorem Quad.lt (h : Quad w W s r t q vs vr vt vq m n a a' b b') {j : Nat} (hj : Feet s r t q vs vr vt vq j) : j < W.heap.size := by
  rcases hj with h1 | h1 | h1 | h1
  · exact h.ss.lt h1
  · exact h.sr.lt h1
  · exact h.st.lt h1
  · exact h.sq.lt h1
theorem Quad.new (h : Quad w W s r t q vs vr vt vq m n a a' b b') (hB : Below W.heap.size W W') : Quad w W' s r t q vs vr vt vq m n a a' b b' :=
  ⟨h.bel.trans (hB.mono h.bel.size), h.ss.new hB, h.sr.new hB, h.st.new hB, h.sq.new hB, h.d1, h.d2, h.d3, h.hi⟩
theorem Quad.swap (h : Quad w W s r t q vs vr vt vq m n a a' b b') : Quad w W t q s r vt vq vs vr n m b b' a a' :=
  ⟨h.bel, h.st, h.sq, h.ss, h.sr,
   fun j h1 h2 => by
     rcases h2 with h2 | h2 | h2
     · exact h.d3 j h1 h2
     · exact h.d1 j h2 (.inr (.inl h1))
     · exact h.d2 j h2 (.inl h1),
   fun j h1 h2 => by
     rcases h2 with h2 | h2
     · exact h.d1 j h2 (.inr (.inr h1))
     · exact h.d2 j h2 (.inr h1),
   fun j h1 h2 => h.d1 j h1 (.inl h2),
   fun j h1 => h.hi j (by unfold Feet at *; rcases h1 with h1 | h1 | h1 | h1 <;> simp [h1])⟩
theorem Quad.turnS {vs' : Value} {c : List Pr} (h : Quad w W s r t q vs vr vt vq m n a a' b b') (S : SetAt W' s w.heap.size vs' m c) (M : Mod (Foot s vs) W W') (hq : ∀ j, Foot s vs' j → Foot s vs j ∨ W.heap.size ≤ j) :
    Quad w W' s r t q vs' vr vt vq m n c a' b b' := by
  have hbs := h.bel.size
  have d1 : ∀ j, Foot s vs' j → ¬ (Foot r vr j ∨ Foot t vt j ∨ Foot q vq j) := fun j h1 h2 => by
    rcases hq j h1 with h3 | h3
    · exact h.d1 j h3 h2
    · have := h.lt (j := j) (by unfold Feet; exact .inr h2)
      omega
  refine ⟨h.bel.trans (M.below (by omega) (fun j h1 h2 => by have := h.hi j (.inl h2); omega)), S, h.sr.mod M (fun j h1 h2 => h.d1 j h2 (.inl h1)), h.st.mod M (fun j h1 h2 => h.d1 j h2 (.inr (.inl h1))), h.sq.mod M (fun j h1 h2 => h.d1 j h2 (.inr (.inr h1))), d1, h.d2, h.d3, fun j h1 => ?_⟩
  rcases h1 with h1 | h1
  · rcases hq j h1 with h3 | h3
    · exact h.hi j (.inl h3)
    · omega
  · exact h.hi j (.inr h1)
theorem Quad.turnR {vr' : Value} {c : List Pr} (h : Quad w W s r t q vs vr vt vq m n a a' b b') (S : RefAt W' r w.heap.size vr' m c) (M : Mod (Foot r vr) W W') (hq : ∀ j, Foot r vr' j → Foot r vr j ∨ W.heap.size ≤ j) :
    Quad w W' s r t q vs vr' vt vq m n a c b b' := by
  have hbs := h.bel.size
  refine ⟨h.bel.trans (M.below (by omega) (fun j h1 h2 => by have := h.hi j (.inr (.inl h2)); omega)), h.ss.mod M (fun j h1 h2 => h.d1 j h1 (.inl h2)), S, h.st.mod M (fun j h1 h2 => h.d2 j h2 (.inl h1)), h.sq.mod M (fun j h1 h2 => h.d2 j h2 (.inr h1)), fun j h1 h2 => ?_, fun j h1 h2 => ?_, h.d3, fun j h1 => ?_⟩
  · rcases h2 with h2 | h2
    · rcases hq j h2 with h3 | h3
      · exact h.d1 j h1 (.inl h3)
      · have := h.lt (j := j) (.inl h1)
        omega
    · exact h.d1 j h1 (.inr h2)
  · rcases hq j h1 with h3 | h3
    · exact h.d2 j h3 h2
    · have := h.lt (j := j) (.inr (.inr h2))
      omega
  · rcases h1 with h1 | h1 | h1
    · exact h.hi j (.inl h1)
    · rcases hq j h1 with h3 | h3
      · exact h.hi j (.inr (.inl h3))
      · omega
    · exact h.hi j (.inr (.inr h1))
theorem Quad.off (h : Quad w W s r t q vs vr vt vq m n a a' b b') {S : Nat → Prop} (M : Mod S W W') (hS : ∀ j, Feet s r t q vs vr vt vq j → ¬ S j) (hlo : ∀ j, j < w.heap.size → ¬ S j) : Quad w W' s r t q vs vr vt vq m n a a' b b' :=
  ⟨h.bel.trans (M.below h.bel.size hlo), h.ss.mod M (fun j e => hS j (.inl e)), h.sr.mod M (fun j e => hS j (.inr (.inl e))), h.st.mod M (fun j e => hS j (.inr (.inr (.inl e)))), h.sq.mod M (fun j e => hS j (.inr (.inr (.inr e)))), h.d1, h.d2, h.d3, h.hi⟩
theorem Quad.far (h : Quad w W s r t q vs vr vt vq m n a a' b b') {S : Nat → Prop} (M : Mod S W W') (hS : ∀ j, S j → W.heap.size ≤ j) : Quad w W' s r t q vs vr vt vq m n a a' b b' :=
  h.new (M.below (Nat.le_refl _) (fun j h1 h2 => by have := hS j h2; omega))
end
/-- The pair at hand in a block of its own, beside them. -/
structure QuadZ (w W : World) (s r t q z : Nat) (vs vr vt vq : Value) (m n : Nat) (a a' b b' : List Pr) (p1 p2 : Int) : Prop where
  quad : Quad w W s r t q vs vr vt vq m n a a' b b'
  blk : Blk W z 42 [.int .i64 p1, .int .i64 p2]
  zs : ∀ j, Feet s r t q vs vr vt vq j → j ≠ z
section
variable {w W W' : World} {s r t q z : Nat} {vs vr vt vq : Value} {m n : Nat} {a a' b b' : List Pr} {p1 p2 : Int}
theorem QuadZ.new (h : QuadZ w W s r t q z vs vr vt vq m n a a' b b' p1 p2) (hB : Below W.heap.size W W') : QuadZ w W' s r t q z vs vr vt vq m n a a' b b' p1 p2 :=
  ⟨h.quad.new hB, h.blk.below hB h.blk.lt, h.zs⟩
theorem QuadZ.turnS {vs' : Value} {c : List Pr} (h : QuadZ w W s r t q z vs vr vt vq m n a a' b b' p1 p2) (S : SetAt W' s w.heap.size vs' m c) (M : Mod (Foot s vs) W W') (hq : ∀ j, Foot s vs' j → Foot s vs j ∨ W.heap.size ≤ j) :
    QuadZ w W' s r t q z vs' vr vt vq m n c a' b b' p1 p2 :=
  ⟨h.quad.turnS S M hq, h.blk.mod M (fun e => h.zs z (.inl e) rfl), fun j h1 e => by
    rcases h1 with h1 | h1
    · rcases hq j h1 with h3 | h3
      · exact h.zs j (.inl h3) e
      · have := h.blk.lt; omega
    · exact h.zs j (.inr h1) e⟩
theorem QuadZ.turnR {vr' : Value} {c : List Pr} (h : QuadZ w W s r t q z vs vr vt vq m n a a' b b' p1 p2) (S : RefAt W' r w.heap.size vr' m c) (M : Mod (Foot r vr) W W') (hq : ∀ j, Foot r vr' j → Foot r vr j ∨ W.heap.size ≤ j) :
    QuadZ w W' s r t q z vs vr' vt vq m n a c b b' p1 p2 :=
  ⟨h.quad.turnR S M hq, h.blk.mod M (fun e => h.zs z (.inr (.inl e)) rfl), fun j h1 e => by
    rcases h1 with h1 | h1 | h1
    · exact h.zs j (.inl h1) e
    · rcases hq j h1 with h3 | h3
      · exact h.zs j (.inr (.inl h3)) e
      · have := h.blk.lt; omega
    · exact h.zs j (.inr (.inr h1)) e⟩
theorem QuadZ.swap (h : QuadZ w W s r t q z vs vr vt vq m n a a' b b' p1 p2) : QuadZ w W t q s r z vt vq vs vr n m b b' a a' p1 p2 :=
  ⟨h.quad.swap, h.blk, fun j h1 => h.zs j (by unfold Feet at *; rcases h1 with h1 | h1 | h1 | h1 <;> simp [h1])⟩
theorem QuadZ.cells (h : QuadZ w W s r t q z vs vr vt vq m n a a' b b' p1 p2) : W.cell? ⟨z, 0, none⟩ = some (.int .i64 p1) ∧ W.cell? ⟨z, 1, none⟩ = some (.int .i64 p2) :=
  ⟨by simpa using h.blk.cell 0, by simpa using h.blk.cell 1⟩
end
/-- Beside them a list that was read off. -/
structure QuadL (w W : World) (s r t q z : Nat) (vs vr vt vq : Value) (m n : Nat) (a a' b b' : List Pr) (p1 p2 : Int) (lv : Value) (l : List Pr) : Prop where
  qz : QuadZ w W s r t q z vs vr vt vq m n a a' b b' p1 p2
  rl : Rd W lv l.length 2 (pairCells l)
theorem QuadL.new {w W W' : World} {s r t q z : Nat} {vs vr vt vq : Value} {m n : Nat} {a a' b b' : List Pr} {p1 p2 : Int} {lv : Value} {l : List Pr} (h : QuadL w W s r t q z vs vr vt vq m n a a' b b' p1 p2 lv l) (hB : Below W.heap.size W W') :
    QuadL w W' s r t q z vs vr vt vq m n a a' b b' p1 p2 lv l := ⟨h.qz.new hB, h.rl.new hB⟩
theorem QuadL.drewN {w W : World} {s r t q z : Nat} {vs vr vt vq : Value} {m n : Nat} {a a' b b' : List Pr} {p1 p2 : Int} {lv : Value} {l : List Pr} (h : QuadL w W s r t q z vs vr vt vq m n a a' b b' p1 p2 lv l) (j : Nat) :
    QuadL w (W.drewN j) s r t q z vs vr vt vq m n a a' b b' p1 p2 lv l := h.new (Below.drewN' (Below.refl _ _) j)
theorem QuadL.cells {w W : World} {s r t q z : Nat} {vs vt vq : Value} {m n : Nat} {a a' b b' : List Pr} {p1 p2 : Int} {lv : Value} {l : List Pr} {ra : Option Addr} {rc : Nat} (h : QuadL w W s r t q z vs (.slice ra a'.length rc) vt vq m n a a' b b' p1 p2 lv l) :
    W.cell? ⟨z, 0, none⟩ = some (.int .i64 p1) ∧ W.cell? ⟨z, 1, none⟩ = some (.int .i64 p2) ∧ W.cell? ⟨r, 0, none⟩ = some (.slice ra a'.length rc) :=
  ⟨h.qz.cells.1, h.qz.cells.2, by simpa using h.qz.quad.sr.head.cell 0⟩
theorem bcell {W w1 : World} (hb : Below W.heap.size W w1) : (∀ b o, b < W.heap.size → w1.cell? ⟨b, o, none⟩ = W.cell? ⟨b, o, none⟩) ∧ (∀ b o, b < W.heap.size → w1.frozen? ⟨b, o, none⟩ = W.frozen? ⟨b, o, none⟩) :=
  ⟨fun b o h => hb.cell (p := ⟨b, o, none⟩) h, fun b o h => hb.frozen (p := ⟨b, o, none⟩) h⟩
theorem set2_mod (w : World) (z : Nat) (u v : Value) : Mod (fun j => j = z) w ((w.setCell ⟨z, 0, none⟩ u).setCell ⟨z, 1, none⟩ v) :=
  Mod.setCell (S := fun j => j = z) (p := ⟨z, 1, none⟩) (Mod.setCell (S := fun j => j = z) (p := ⟨z, 0, none⟩) (Mod.refl _ w) (fun _ => rfl) u) (fun _ => rfl) v
/-- A step of the script: four cells. -/
structure Stp where
  what : Int
  a : Int
  b : Int
  far : Bool
instance : Inhabited Stp := ⟨⟨0, 0, 0, false⟩⟩
def encStp (x : Stp) : List Value := [.int .i64 x.what, .int .i64 x.a, .int .i64 x.b, .bool x.far]
def stps (l : List Stp) : List Value := l.flatMap encStp
def GoodStp (x : Stp) : Prop := In64 x.what ∧ In64 x.a ∧ In64 x.b
theorem stps_get {l : List Stp} {k : Nat} {x : Stp} (h : l[k]? = some x) (r : Nat) (hr : r < 4) : (stps l)[k * 4 + r]? = (encStp x)[r]? :=
  flat_get (f := encStp) (sz := 4) (fun _ => rfl) l k r x h hr
end Go.Proofs.Ytlcmjpligaiadaa
