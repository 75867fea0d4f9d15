/- Opening an argument: a slice of elements of a fixed number of cells reads as a list. Over any program. -/
import Derived.Test.YtpbpdgknjbjlcaaBase
import Derived.ProofKit
import Derived.OpenShut
import Derived.ChangeOld
import Derived.SizedLaws
import Derived.Deep.Slices
namespace Go.Proofs.Ytpbpdgknjbjlcaa
open Go.RowKit Go.ChangeShapes Go.WideShapes Go.Deep

theorem flat_get {α : Type} {f : α → List Value} {sz : Nat} (hf : ∀ y, (f y).length = sz) : ∀ (ys : List α) (i r : Nat) (y : α), ys[i]? = some y → r < sz → (ys.flatMap f)[i * sz + r]? = (f y)[r]? := by
  intro ys
  induction ys with
  | nil => intro i r y h; simp at h
  | cons a ys ih =>
    intro i r y h hr
    cases i with
    | zero =>
      simp at h; subst h
      rw [List.flatMap_cons, Nat.zero_mul, Nat.zero_add, List.getElem?_append_left (by rw [hf]; exact hr)]
    | succ i =>
      simp only [List.getElem?_cons_succ] at h
      rw [List.flatMap_cons, List.getElem?_append_right (by rw [hf, Nat.succ_mul]; omega), hf, Nat.succ_mul, show i * sz + sz + r - sz = i * sz + r from by omega]
      exact ih i r y h hr

theorem flat_len {α : Type} {f : α → List Value} {sz : Nat} (hf : ∀ y, (f y).length = sz) : ∀ ys : List α, (ys.flatMap f).length = ys.length * sz
  | [] => by simp
  | y :: ys => by rw [List.flatMap_cons, List.length_append, hf, flat_len hf ys, List.length_cons, Nat.succ_mul, Nat.add_comm]
theorem add_add (x : Addr) (i j : Nat) : (x.add i).add j = x.add (i + j) := by
  unfold Addr.add
  by_cases h1 : i = 0
  · subst h1; simp
  · by_cases h2 : j = 0
    · subst h2; simp
    · rw [if_neg h1, if_neg h2, if_neg (by omega)]; simp [Nat.add_assoc]
theorem add_zero (x : Addr) : x.add 0 = x := by simp [Addr.add]

theorem rd_of_trod {α H : Type} {enc : TypeId × Value → H} {P : Program} {W : World} {base : Nat} {spare : Nat → Bool} {held : Bool} {t e : TypeId} {a : Option Addr} {len cap : Nat} {d : DataW H} {p : List MemPlace}
    (encE : α → List Value) (good : α → Prop) {sz : Nat} (ht : P.underlying t = some (.slice e)) (hc : P.cellsOf e = sz) (hsz : 0 < sz) (hf : ∀ y, (encE y).length = sz)
    (hE : ∀ n cs x, DataW.trod enc P W base spare held n e cs = some x → ∃ y, cs = encE y ∧ good y)
    (h : DataW.Trod enc P W base spare held t (.slice a len cap) d p) :
    (∃ ys : List α, ys.length = len ∧ Rd W (.slice a len cap) len sz (ys.flatMap encE) ∧ ∀ y ∈ ys, good y) ∧ ((d = .nil ∧ len = 0) ∨ ∃ el sp, d = .slice el sp ∧ el.length = len) := by
  obtain ⟨fuel, h⟩ := h
  rcases open_slice ht h with ⟨hcs, hx⟩ | ⟨x, len', cap', m, n, D, Pl, hcs, hb, hl, hm, hmm, hx, hel⟩
  · simp [Value.cells] at hcs
    obtain ⟨rfl, rfl, rfl⟩ := hcs
    simp only [Prod.mk.injEq] at hx
    exact ⟨⟨[], rfl, Rd.nil _ _ _ _ (by decide), by simp⟩, .inl ⟨hx.1, rfl⟩⟩
  · simp [Value.cells] at hcs
    obtain ⟨rfl, rfl, rfl⟩ := hcs
    simp only [Prod.mk.injEq] at hx
    refine ⟨?_, .inr ⟨_, _, hx.1, by simp⟩⟩
    have hle : len ≤ m := by rw [hmm]; split <;> omega
    have hex : ∀ i, i < len → ∃ y, W.cells? base (x.add (i * sz)) sz = some (encE y) ∧ good y := by
      intro i hi
      obtain ⟨cs', h1, h2⟩ := hel i (by omega)
      obtain ⟨y, rfl, hg⟩ := hE _ _ _ h2
      rw [hc] at h1
      exact ⟨y, h1, hg⟩
    have hys : ∀ k, k ≤ len → ∃ ys : List α, ys.length = k ∧ (∀ y ∈ ys, good y) ∧ ∀ i, i < k → ∃ y, ys[i]? = some y ∧ W.cells? base (x.add (i * sz)) sz = some (encE y) := by
      intro k
      induction k with
      | zero => exact fun _ => ⟨[], rfl, by simp, fun i hi => by omega⟩
      | succ k ih =>
        intro hk
        obtain ⟨ys, h1, h2, h3⟩ := ih (by omega)
        obtain ⟨y, hy, hg⟩ := hex k (by omega)
        refine ⟨ys ++ [y], by simp [h1], ?_, fun i hi => ?_⟩
        · intro z hz
          rcases List.mem_append.1 hz with hz | hz
          · exact h2 z hz
          · simp at hz; subst hz; exact hg
        · rcases Nat.lt_or_ge i k with h | h
          · obtain ⟨z, hz, hz2⟩ := h3 i h
            exact ⟨z, by rw [List.getElem?_append_left (by omega)]; exact hz, hz2⟩
          · obtain rfl : i = k := by omega
            exact ⟨y, by rw [List.getElem?_append_right (by omega)]; simp [h1], hy⟩
    obtain ⟨ys, h1, h2, h3⟩ := hys len (Nat.le_refl _)
    refine ⟨ys, h1, ⟨_, _, rfl, by rw [flat_len hf, h1], hl, hm, fun hn => ?_⟩, h2⟩
    have hcell : ∀ i, i < len * sz → W.cell? (x.add i) = (ys.flatMap encE)[i]? := by
      intro j hj
      have hdm := Nat.div_add_mod j sz
      have hr : j % sz < sz := Nat.mod_lt _ hsz
      have hi : j / sz < len := Nat.div_lt_of_lt_mul (by rw [Nat.mul_comm]; exact hj)
      obtain ⟨y, hy, hcs⟩ := h3 (j / sz) hi
      have hj2 : j = j / sz * sz + j % sz := by rw [Nat.mul_comm]; omega
      rw [hj2, flat_get hf ys _ _ y hy hr]
      obtain ⟨_, hlen, hget⟩ := World.cells?_some hcs
      have := hget (j % sz) hr
      rw [← this, add_add]
    have h0 := hcell 0 (Nat.mul_pos (by omega) hsz)
    rw [add_zero, List.getElem?_eq_getElem (by rw [flat_len hf, h1]; exact Nat.mul_pos (by omega) hsz)] at h0
    have hs := World.cell?_spot h0
    have hlt := World.block_lt_of_cell? W _ h0
    obtain ⟨b, off, spot⟩ := x
    subst hs
    refine ⟨b, off, rfl, hlt, fun i hi => ?_⟩
    rw [← hcell i hi]
    unfold Addr.add
    split
    · subst_vars; rfl
    · rfl
end Go.Proofs.Ytpbpdgknjbjlcaa
namespace Go.Proofs.Ytpbpdgknjbjlcaa
open Go.RowKit Go.ChangeShapes Go.WideShapes Go.Deep
/-- A slice that came in is no longer than its weight allows. -/
theorem sized_at {H : Type} {P : Program} {ts : List TypeId} {ds : List (DataW H)} {j : Nat} {t e : TypeId} {d : DataW H} {len B : Nat} (hsz : (DataW.weightsEach P ts ds).all (· ≤ reachBytes) = true) (ht : ts[j]? = some t) (hd : ds[j]? = some d) (hu : P.underlying t = some (.slice e)) (hB : P.bytesOf e = B)
    (h : (d = .nil ∧ len = 0) ∨ ∃ el sp, d = .slice el sp ∧ el.length = len) : len * B ≤ 140737488351232 := by
  rcases h with ⟨_, rfl⟩ | ⟨el, sp, rfl, rfl⟩
  · simp
  · have z := sized_slice hsz ht hd hu
    rw [hB] at z
    exact Nat.le_trans (Nat.mul_le_mul_right _ (Nat.le_add_right _ _)) z
end Go.Proofs.Ytpbpdgknjbjlcaa
