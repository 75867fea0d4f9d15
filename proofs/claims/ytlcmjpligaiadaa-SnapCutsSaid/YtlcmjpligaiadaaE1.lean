/- Event queues: plain facts, and the small functions walked. -/
import Derived.Test.YtlcmjpligaiadaaW5
import Derived.Test.YtlcmjpligaiadaaCp
import Derived.Test.YtlcmjpligaiadaaW6
namespace Go.Proofs.Ytlcmjpligaiadaa
open Go.RowKit
structure Ev where
  kind : Int
  a : Int
  b : Int
deriving DecidableEq
instance : Inhabited Ev := ⟨⟨0, 0, 0⟩⟩
def encEv (e : Ev) : List Value := [.int .i64 e.kind, .int .i64 e.a, .int .i64 e.b]
abbrev evCells (l : List Ev) : List Value := l.flatMap encEv
theorem ev_len (l : List Ev) : (evCells l).length = l.length * 3 := flat_len (f := encEv) (sz := 3) (fun _ => rfl) l
theorem ev_get {l : List Ev} {k : Nat} {e : Ev} (h : l[k]? = some e) : (evCells l)[k * 3]? = some (.int .i64 e.kind) ∧ (evCells l)[k * 3 + 1]? = some (.int .i64 e.a) ∧ (evCells l)[k * 3 + 2]? = some (.int .i64 e.b) := by
  refine ⟨?_, ?_, ?_⟩
  · exact (flat_get (f := encEv) (sz := 3) (fun _ => rfl) l k 0 e h (by decide)).trans rfl
  · exact (flat_get (f := encEv) (sz := 3) (fun _ => rfl) l k 1 e h (by decide)).trans rfl
  · exact (flat_get (f := encEv) (sz := 3) (fun _ => rfl) l k 2 e h (by decide)).trans rfl
theorem ev_append (a b : List Ev) : evCells (a ++ b) = evCells a ++ evCells b := by simp [evCells]
theorem ev_one (l : List Ev) : ∀ u ∈ evCells l, u.oneCell' = true := by
  intro u hu
  rw [List.mem_flatMap] at hu
  obtain ⟨s, _, hu⟩ := hu
  simp only [encEv, List.mem_cons, List.not_mem_nil, or_false] at hu
  rcases hu with rfl | rfl | rfl <;> rfl
theorem ev_set (X : List Ev) (i : Nat) (e : Ev) (h : i < X.length) : (((evCells X).set (i * 3) (.int .i64 e.kind)).set (i * 3 + 1) (.int .i64 e.a)).set (i * 3 + 2) (.int .i64 e.b) = evCells (X.set i e) := by
  induction X generalizing i with
  | nil => simp at h
  | cons x X ih =>
    cases i with
    | zero => simp [evCells, encEv]
    | succ i =>
      have := ih i (by simpa using h)
      simp only [evCells, List.flatMap_cons, List.set_cons_succ, encEv, List.cons_append, List.nil_append] at this ⊢
      rw [show (i + 1) * 3 = i * 3 + 1 + 1 + 1 by omega]
      simp only [List.set_cons_succ]
      rw [this]
theorem info56 : (Try.prog.info? 56).map (fun i => (i.zero, i.size, i.bytes)) = some (some (.agg #[.int .i64 0, .int .i64 0, .int .i64 0]), 3, 24) := by kernel_rfl
theorem Rd.ev {w : World} {b off n cap : Nat} {l : List Ev} (h : Rd w (.slice (some ⟨b, off, none⟩) n cap) n 3 (evCells l)) {i : Nat} (hi : i < n) {e : Ev} (he : l[i]? = some e) :
    w.cell? ⟨b, off + i * 3, none⟩ = some (.int .i64 e.kind) ∧ w.cell? ⟨b, off + i * 3 + 1, none⟩ = some (.int .i64 e.a) ∧ w.cell? ⟨b, off + i * 3 + 2, none⟩ = some (.int .i64 e.b) := by
  obtain ⟨g0, g1, g2⟩ := ev_get he
  refine ⟨(h.at (i := i * 3) (by omega)).trans g0, ?_, ?_⟩
  · rw [Nat.add_assoc]; exact (h.at (i := i * 3 + 1) (by omega)).trans g1
  · rw [Nat.add_assoc]; exact (h.at (i := i * 3 + 2) (by omega)).trans g2
/-- A queue at q: its ring is block g of n places, m events from place f on. -/
structure QAt (w : World) (q g n f m : Nat) (L : List Ev) : Prop where
  head : Blk w q 106 [.slice (some ⟨g, 0, none⟩) n n, .int .i64 f, .int .i64 m]
  ring : ∃ X : List Ev, Blk w g 56 (evCells X) ∧ X.length = n ∧ ∀ i, i < m → X[(f + i) % n]? = L[i]?
  len : L.length = m
  full : m ≤ n
  at' : f < n
  room : n ≤ 1024
theorem QAt.new {w w' : World} {q g n f m : Nat} {L : List Ev} (h : QAt w q g n f m L) (hB : Below w.heap.size w w') : QAt w' q g n f m L := by
  obtain ⟨X, h1, h2, h3⟩ := h.ring
  exact ⟨h.head.below hB h.head.lt, ⟨X, h1.below hB h1.lt, h2, h3⟩, h.len, h.full, h.at', h.room⟩
theorem QAt.mod {S : Nat → Prop} {w w' : World} {q g n f m : Nat} {L : List Ev} (h : QAt w q g n f m L) (hM : Mod S w w') (hq : ¬ S q) (hg : ¬ S g) : QAt w' q g n f m L := by
  obtain ⟨X, h1, h2, h3⟩ := h.ring
  exact ⟨h.head.mod hM hq, ⟨X, h1.mod hM hg, h2, h3⟩, h.len, h.full, h.at', h.room⟩
theorem QAt.glt {w : World} {q g n f m : Nat} {L : List Ev} (h : QAt w q g n f m L) : g < w.heap.size := by
  obtain ⟨X, h1, _⟩ := h.ring
  exact h1.lt
theorem QAt.ne {w : World} {q g n f m : Nat} {L : List Ev} (h : QAt w q g n f m L) : q ≠ g := by
  obtain ⟨X, h1, _⟩ := h.ring
  exact blk_type_ne h.head h1 (by decide)
theorem qnew_bad (room : Int) (w : World) (h : room < 1 ∨ 1024 < room) :
    Calls Try.prog 30 #[.int .i64 room] w fun e w' => e = .returned (.tuple #[.pointer none, .int .i64 1]) ∧ w = w' := by
  by_cases h1 : room < 1
  · go_enter Try.func30, Try.ntmps30
    go_wp2
    go_ret2
    exact ⟨rfl, rfl⟩
  · have h2 : 1024 < room := by omega
    clear h
    go_enter Try.func30, Try.ntmps30
    go_wp2
    go_ret2
    exact ⟨rfl, rfl⟩
theorem made_flat {α : Type} (f : α → List Value) {sz : Nat} (hf : ∀ y, (f y).length = sz) (hsz : 0 < sz) (x : α) (n : Nat) : (madeCells (f x).toArray (n * sz)).toList = (List.replicate n x).flatMap f := by
  apply List.ext_getElem?
  intro i
  by_cases hi : i < n * sz
  · have hr : i % sz < sz := Nat.mod_lt _ hsz
    have hd : i / sz < n := Nat.div_lt_of_lt_mul (by rw [Nat.mul_comm]; exact hi)
    have hi2 : i = i / sz * sz + i % sz := by have := Nat.div_add_mod i sz; rw [Nat.mul_comm]; omega
    have h1 : ((List.replicate n x).flatMap f)[i]? = (f x)[i % sz]? := by
      conv => lhs; rw [hi2]
      exact flat_get hf _ _ _ x (by simp [hd]) hr
    rw [h1]
    have hlt : i % sz < (f x).length := by rw [hf]; exact hr
    simp only [madeCells, Array.toList_map, Array.toList_range, List.getElem?_map, List.size_toArray, hf]
    rw [List.getElem?_range hi]
    simp [hlt]
  · rw [List.getElem?_eq_none (by simp [size_madeCells]; omega), List.getElem?_eq_none (by rw [flat_len hf]; simp; omega)]
theorem made_evs (n : Nat) : (madeCells (Value.cells (.agg #[.int .i64 0, .int .i64 0, .int .i64 0])) (n * 3)).toList = evCells (List.replicate n ⟨0, 0, 0⟩) :=
  made_flat encEv (fun _ => rfl) (by decide) ⟨0, 0, 0⟩ n
set_option maxRecDepth 100000 in
theorem qnew_ok (n : Nat) (w : World) (h1 : 1 ≤ n) (h2 : n ≤ 1024) :
    Calls Try.prog 30 #[.int .i64 (n : Int)] w fun e w' => ∃ q g, e = .returned (.tuple #[.pointer (some ⟨q, 0, none⟩), .int .i64 0]) ∧ QAt w' q g n 0 0 [] ∧ Below w.heap.size w w' ∧ w.heap.size ≤ q ∧ w.heap.size ≤ g := by
  obtain ⟨i0, hi, hz0, hz1, hz2⟩ := info_parts info56
  have n1 : (1 : Int) ≤ (n : Int) := by omega
  have n2 : (n : Int) ≤ 1024 := by omega
  go_enter Try.func30, Try.ntmps30
  go_wp2_with (at_make; refine wpList_make_full _ rfl _ _ 53 rfl w.heap.size 56 i0 (.agg #[.int .i64 0, .int .i64 0, .int .i64 0]) 3 Try.underlying53 hi hz0 hz1 .i64 .i64 _ _ n rfl rfl rfl rfl (by rw [hz2]; omega) (by unfold maxLen; omega) (Nat.le_refl _) ?_; intro w1 hown1 hg1)
  have hs := own_blk hown1
  rw [made_evs] at hs
  have hB := ((Below.refl w.heap.size w).grown hg1 (Nat.le_refl _) (by simp))
  have hlt := hs.lt
  go_ret2
  refine ⟨w1.heap.size, w.heap.size, rfl, ⟨?_, ⟨_, hs.alloc _, by simp, fun i hi => by omega⟩, rfl, by omega, by omega, h2⟩, hB.alloc hB.size _, hB.size, Nat.le_refl _⟩
  exact Blk.new w1 106 [_, _, _]
theorem at_any (q g n f m : Nat) (L : List Ev) (k : Nat) (hk : k ≤ 1024) (w : World) (h : QAt w q g n f m L) :
    Calls Try.prog 66 #[.pointer (some ⟨q, 0, none⟩), .int .i64 (k : Int)] w fun e w' => e = .returned (.int .i64 (((f + k) % n : Nat) : Int)) ∧ ∃ d, w' = w.drewN d := by
  have c0 := h.head.cell 0
  have c1 := h.head.cell 1
  simp only [List.getElem?_cons_zero, List.getElem?_cons_succ] at c0 c1
  have h1 := h.at'
  have h2 := h.room
  have h3 : (f : Int) ≤ 1024 := by omega
  have h4 : (k : Int) ≤ 1024 := by omega
  have h5 : ((n : Int) == 0) = false := by simp; omega
  have h6 : ¬ (n : Int) = 0 := by omega
  go_enter Try.func66, Try.ntmps66
  go_wp2
  go_quiet (fail)
  go_wp2
  go_ret
  exact ⟨by rfl, _, rfl⟩
theorem free_any (q g n f m : Nat) (L : List Ev) (w : World) (h : QAt w q g n f m L) :
    Calls Try.prog 35 #[.pointer (some ⟨q, 0, none⟩)] w fun e w' => e = .returned (.int .i64 ((n - m : Nat) : Int)) ∧ ∃ d, w' = w.drewN d := by
  have c0 := h.head.cell 0
  have c2 := h.head.cell 2
  simp only [List.getElem?_cons_zero, List.getElem?_cons_succ] at c0 c2
  have h1 := h.full
  have h2 := h.room
  have h3 : (m : Int) ≤ 1024 := by omega
  have h4 : (n : Int) ≤ 1024 := by omega
  have h5 := Lib.hid (show (n : Int) - (m : Int) = ((n - m : Nat) : Int) by omega)
  go_enter Try.func35, Try.ntmps35
  go_wp2
  go_quiet (fail)
  go_wp2
  go_ret
  exact ⟨ret_int h5.out, _, rfl⟩
end Go.Proofs.Ytlcmjpligaiadaa
