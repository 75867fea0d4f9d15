/- Contacts: the directions that may tell two apart, as lists; what is kept while they are gone through. -/
import Derived.Test.YtpbpdgknjbjlcaaCy
import Derived.Test.YtpbpdgknjbjlcaaCs
import Derived.Test.YtpbpdgknjbjlcaaRq
namespace Go.Proofs.Ytpbpdgknjbjlcaa
open Go.RowKit
def crossesL (E F : List Pt) : List Pt := E.flatMap (fun e => F.map (crossP e))
def pairRow (D : List Pt) (p q : Pt) : List Pt := shortP (subP q p) :: D.map (fun e => crossP (shortP (crossP e (shortP (subP q p)))) e)
def pairsL (P Q D : List Pt) : List Pt := P.flatMap (fun p => Q.flatMap (pairRow D p))
def restL (a b : Cor) : List Pt := if min a.P.length b.P.length > 2 then [] else pairsL a.P b.P (a.E ++ b.E)
def waysP (a b : Cor) : List Pt := (a.A ++ b.A) ++ (crossesL a.E b.E ++ restL a b)
theorem drop_cons {α : Type} {l : List α} {k : Nat} {x : α} (h : l[k]? = some x) : l.drop k = x :: l.drop (k + 1) := by
  obtain ⟨h1, h2⟩ := List.getElem?_eq_some_iff.1 h
  rw [List.drop_eq_getElem_cons h1, h2]
/-- Blocks of points are what the iterator has of its own. -/
def pvP (o : Obj) : Prop := ∃ cs fr, o = .cells cs 26 fr
theorem pvP_cells {o : Obj} (h : pvP o) : o.isCells = true := by
  obtain ⟨cs, fr, rfl⟩ := h
  rfl
theorem Rd.keep {w w' : World} {v : Value} {n sz : Nat} {xs : List Value} (h : Rd w v n sz xs) (hb : n ≠ 0 → ∀ b, v.ownBlock = some b → w'.heap[b]? = w.heap[b]?) : Rd w' v n sz xs := by
  obtain ⟨a, c, e, h1, h2, h3, h4⟩ := h
  refine ⟨a, c, e, h1, h2, h3, fun hne => ?_⟩
  obtain ⟨b, off, e2, h5, h6⟩ := h4 hne
  have hh := hb hne b (by rw [e, e2]; rfl)
  refine ⟨b, off, e2, keep_lt hh h5, fun i hi => ?_⟩
  rw [← h6 i hi]
  exact World.cell?_of_block (w := w) hh
/-- The blocks of a slice that is not empty. -/
def obs (v : Value) (n : Nat) : List Nat := if n = 0 then [] else v.ownBlock.toList
theorem obs_mem {v : Value} {n b : Nat} (hn : n ≠ 0) (h : v.ownBlock = some b) : b ∈ obs v n := by unfold obs; rw [if_neg hn, h]; simp
theorem obs_lt {w : World} {v : Value} {n sz b : Nat} {xs : List Value} (h : Rd w v n sz xs) (hb : b ∈ obs v n) : b < w.heap.size := by
  unfold obs at hb
  split at hb
  · cases hb
  · rename_i hn
    obtain ⟨a, c, e, _, _, _, h4⟩ := h
    obtain ⟨b', off, e2, h5, _⟩ := h4 hn
    rw [e, e2] at hb
    have : b = b' := by simpa [Value.ownBlock] using hb
    omega
theorem KeepB.step {bs : List Nat} {W w w' : World} (h : KeepB bs W w) (hbs : ∀ b ∈ bs, b < W.heap.size) (hB : Below w.heap.size w w') : KeepB bs W w' := fun b hb => (hB.block b (keep_lt (h b hb) (hbs b hb))).trans (h b hb)
/-- A core at hand: its box, its slices, and that all of it is among the kept. -/
structure Cat (W : World) (bx : Nat) (c : Cor) (bs : List Nat) (pv av ev : Value) : Prop where
  box : Blk W bx 24 [pv, av, ev, .int .i64 c.r]
  p : Rd W pv c.P.length 3 (ptCells c.P)
  a : Rd W av c.A.length 3 (ptCells c.A)
  e : Rd W ev c.E.length 3 (ptCells c.E)
  kb : bx ∈ bs
  kp : c.P.length ≠ 0 → ∀ b, pv.ownBlock = some b → b ∈ bs
  ka : c.A.length ≠ 0 → ∀ b, av.ownBlock = some b → b ∈ bs
  ke : c.E.length ≠ 0 → ∀ b, ev.ownBlock = some b → b ∈ bs
theorem Cat.keep {W W' : World} {bx : Nat} {c : Cor} {bs : List Nat} {pv av ev : Value} (h : Cat W bx c bs pv av ev) (hk : KeepB bs W W') : Cat W' bx c bs pv av ev :=
  ⟨h.box.keep (hk _ h.kb), h.p.keep (fun z b e => hk b (h.kp z b e)), h.a.keep (fun z b e => hk b (h.ka z b e)), h.e.keep (fun z b e => hk b (h.ke z b e)), h.kb, h.kp, h.ka, h.ke⟩
theorem Cat.below {W W' : World} {bx : Nat} {c : Cor} {bs : List Nat} {pv av ev : Value} (h : Cat W bx c bs pv av ev) (hB : Below W.heap.size W W') : Cat W' bx c bs pv av ev :=
  ⟨h.box.below hB h.box.lt, h.p.new hB, h.a.new hB, h.e.new hB, h.kb, h.kp, h.ka, h.ke⟩
/-- A yield's two ways, told by one Bool. -/
theorem own_keepP {w w' : World} {base : Nat} {v : Value} {n : Nat} {xs : List Value} (h : w.ownsRow base 26 3 v n xs) (hk : KeepP pvP w w') : w'.ownsRow base 26 3 v n xs :=
  own_keep h (fun g _ _ hh => (hk g _ hh ⟨_, _, rfl⟩).trans hh.symm)
theorem blk_keepP {w w' : World} {b : Nat} {xs : List Value} (h : Blk w b 26 xs) (hk : KeepP pvP w w') : Blk w' b 26 xs :=
  h.keep ((hk b _ h ⟨_, _, rfl⟩).trans (by unfold Blk at h; exact h.symm))
theorem crosses_snoc {E F : List Pt} {k : Nat} {e : Pt} (h : E[k]? = some e) : crossesL (E.take (k + 1)) F = crossesL (E.take k) F ++ F.map (crossP e) := by
  rw [List.take_add_one, h]
  simp [crossesL]
theorem crosses_split {E F : List Pt} {k : Nat} {e : Pt} (h : E[k]? = some e) : crossesL E F = crossesL (E.take k) F ++ (F.map (crossP e) ++ crossesL (E.drop (k + 1)) F) := by
  conv => lhs; rw [← List.take_append_drop k E, drop_cons h]
  simp [crossesL]
theorem map_split {F : List Pt} (g : Pt → Pt) {m : Nat} {f : Pt} (h : F[m]? = some f) : F.map g = (F.take m).map g ++ g f :: (F.drop (m + 1)).map g := by
  conv => lhs; rw [← List.take_append_drop m F, drop_cons h]
  simp
theorem map_snoc {F : List Pt} (g : Pt → Pt) {m : Nat} {f : Pt} (h : F[m]? = some f) : (F.take (m + 1)).map g = (F.take m).map g ++ [g f] := by
  rw [List.take_add_one, h]
  simp
theorem pairs_snoc {P Q D : List Pt} {k : Nat} {p : Pt} (h : P[k]? = some p) : pairsL (P.take (k + 1)) Q D = pairsL (P.take k) Q D ++ Q.flatMap (pairRow D p) := by
  rw [List.take_add_one, h]
  simp [pairsL]
theorem pairs_split {P Q D : List Pt} {k : Nat} {p : Pt} (h : P[k]? = some p) : pairsL P Q D = pairsL (P.take k) Q D ++ (Q.flatMap (pairRow D p) ++ pairsL (P.drop (k + 1)) Q D) := by
  conv => lhs; rw [← List.take_append_drop k P, drop_cons h]
  simp [pairsL]
theorem flat_snoc {Q : List Pt} (g : Pt → List Pt) {m : Nat} {q : Pt} (h : Q[m]? = some q) : (Q.take (m + 1)).flatMap g = (Q.take m).flatMap g ++ g q := by
  rw [List.take_add_one, h]
  simp
theorem flat_split {Q : List Pt} (g : Pt → List Pt) {m : Nat} {q : Pt} (h : Q[m]? = some q) : Q.flatMap g = (Q.take m).flatMap g ++ (g q ++ (Q.drop (m + 1)).flatMap g) := by
  conv => lhs; rw [← List.take_append_drop m Q, drop_cons h]
  simp
theorem KeepP.of_below {pv : Obj → Prop} {w w' : World} (hB : Below w.heap.size w w') : KeepP pv w w' := fun b _ h1 _ => (hB.block b (Array.getElem?_eq_some_iff.1 h1).1).trans h1
structure MayF (c : Cor) : Prop where
  p0 : 0 < c.P.length
  p1 : c.P.length ≤ 32
  a1 : c.A.length ≤ 128
  e1 : c.E.length ≤ 128
  r0 : 0 ≤ c.r
  r1 : c.r ≤ 65536
  np : ∀ p ∈ c.P, Near 16777216 p
  na : ∀ p ∈ c.A, Near 1048576 p
  ne : ∀ p ∈ c.E, Near 1048576 p
theorem may_facts {c : Cor} (h : mayB c = true) : MayF c := by
  unfold mayB at h
  simp only [Bool.and_eq_true, decide_eq_true_eq] at h
  obtain ⟨⟨⟨⟨⟨⟨⟨⟨h1, h2⟩, h3⟩, h4⟩, h5⟩, h6⟩, h7⟩, h8⟩, h9⟩ := h
  exact ⟨h1, h2, h3, h4, h5, h6, fun p hp => nearB_iff.1 (List.all_eq_true.1 h7 p hp), fun p hp => nearB_iff.1 (List.all_eq_true.1 h8 p hp), fun p hp => nearB_iff.1 (List.all_eq_true.1 h9 p hp)⟩
end Go.Proofs.Ytpbpdgknjbjlcaa
