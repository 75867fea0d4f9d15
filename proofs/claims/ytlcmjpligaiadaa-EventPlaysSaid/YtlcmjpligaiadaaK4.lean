/- Opening slices of slices: elements with their data. Over any program; then lists of lists of events. -/
import Derived.Test.YtlcmjpligaiadaaK
import Derived.Test.YtlcmjpligaiadaaE8
namespace Go.Proofs.Ytlcmjpligaiadaa
open Go.RowKit Go.ChangeShapes Go.WideShapes Go.Deep Go.ChangeAt
theorem rd_of_trodD {α H : Type} {enc : TypeId × Value → H} {P : Program} {W : World} {base : Nat} {spare : Nat → Bool} {held : Bool} {t e : TypeId} {fuel : Nat} {cs : List Value} {x : DataW H × List MemPlace}
    (encE : α → List Value) (good : α → DataW H → Prop) {sz : Nat} (ht : P.underlying t = some (.slice e)) (hc : P.cellsOf e = sz) (hsz : 0 < sz) (hf : ∀ y, (encE y).length = sz)
    (hE : ∀ n cs x, DataW.trod enc P W base spare held n e cs = some x → ∃ y, cs = encE y ∧ good y x.1)
    (h : DataW.trod enc P W base spare held fuel t cs = some x) :
    ∃ a len cap, cs = [.slice a len cap] ∧ ∃ ys : List α, ys.length = len ∧ Rd W (.slice a len cap) len sz (ys.flatMap encE) ∧
      ((x.1 = .nil ∧ len = 0) ∨ ∃ el sp, x.1 = .slice el sp ∧ el.length = len ∧ ∀ (i : Nat) (y : α), ys[i]? = some y → ∃ d, el[i]? = some d ∧ good y d) := by
  rcases open_slice ht h with ⟨hcs, hx⟩ | ⟨x0, len, cap, m, n, D, Pl, hcs, hb, hl, hm, hmm, hx, hel⟩
  · exact ⟨none, 0, 0, hcs, [], rfl, Rd.nil _ _ _ _ (by decide), .inl ⟨by rw [hx], rfl⟩⟩
  · refine ⟨some x0, len, cap, hcs, ?_⟩
    have hle : len ≤ m := by rw [hmm]; split <;> omega
    have hex : ∀ i, i < len → ∃ y, W.cells? base (x0.add (i * sz)) sz = some (encE y) ∧ good y (D i) := by
      intro i hi
      obtain ⟨cs', h1, h2⟩ := hel i (by omega)
      obtain ⟨y, rfl, hg⟩ := hE _ _ _ h2
      rw [hc] at h1
      exact ⟨y, h1, hg⟩
    have hys : ∀ k, k ≤ len → ∃ ys : List α, ys.length = k ∧ ∀ i, i < k → ∃ y, ys[i]? = some y ∧ W.cells? base (x0.add (i * sz)) sz = some (encE y) ∧ good y (D i) := by
      intro k
      induction k with
      | zero => exact fun _ => ⟨[], rfl, fun i hi => by omega⟩
      | succ k ih =>
        intro hk
        obtain ⟨ys, h1, h3⟩ := ih (by omega)
        obtain ⟨y, hy, hg⟩ := hex k (by omega)
        refine ⟨ys ++ [y], by simp [h1], fun i hi => ?_⟩
        rcases Nat.lt_or_ge i k with h | h
        · obtain ⟨z, hz, hz2⟩ := h3 i h
          exact ⟨z, by rw [List.getElem?_append_left (by omega)]; exact hz, hz2⟩
        · obtain rfl : i = k := by omega
          exact ⟨y, by rw [List.getElem?_append_right (by omega)]; simp [h1], hy, hg⟩
    obtain ⟨ys, h1, h3⟩ := hys len (Nat.le_refl _)
    refine ⟨ys, h1, ⟨_, _, rfl, by rw [flat_len hf, h1], hl, hm, fun hn => ?_⟩, .inr ⟨_, _, by rw [hx], by simp, fun i y hy => ?_⟩⟩
    · have hcell : ∀ i, i < len * sz → W.cell? (x0.add i) = (ys.flatMap encE)[i]? := by
        intro j hj
        have hdm := Nat.div_add_mod j sz
        have hr : j % sz < sz := Nat.mod_lt _ hsz
        have hi : j / sz < len := Nat.div_lt_of_lt_mul (by rw [Nat.mul_comm]; exact hj)
        obtain ⟨y, hy, hcs, _⟩ := h3 (j / sz) hi
        have hj2 : j = j / sz * sz + j % sz := by rw [Nat.mul_comm]; omega
        rw [hj2, flat_get hf ys _ _ y hy hr]
        obtain ⟨_, hlen, hget⟩ := World.cells?_some hcs
        have := hget (j % sz) hr
        rw [← this, add_add]
      have h0 := hcell 0 (Nat.mul_pos (by omega) hsz)
      rw [add_zero, List.getElem?_eq_getElem (by rw [flat_len hf, h1]; exact Nat.mul_pos (by omega) hsz)] at h0
      have hs := World.cell?_spot h0
      have hlt := World.block_lt_of_cell? W _ h0
      obtain ⟨b, off, spot⟩ := x0
      subst hs
      refine ⟨b, off, rfl, hlt, fun i hi => ?_⟩
      rw [← hcell i hi]
      unfold Addr.add
      split
      · subst_vars; rfl
      · rfl
    · have hi : i < len := by rw [← h1]; exact (List.getElem?_eq_some_iff.1 hy).1
      obtain ⟨y', hy', _, hg⟩ := h3 i hi
      rw [hy] at hy'
      obtain rfl := Option.some.inj hy'
      exact ⟨D i, by simp [hi], hg⟩
theorem weightsAll_mem {H : Type} {P : Program} {e : TypeId} : ∀ {el : List (DataW H)} {d : DataW H}, d ∈ el → ∀ n ∈ d.weights P e, n ∈ DataW.weightsAll P e el
  | d0 :: r, d, hd, n, hn => by
    simp only [DataW.weightsAll, List.mem_append]
    rcases List.mem_cons.1 hd with rfl | hd
    · exact .inl hn
    · exact .inr (weightsAll_mem hd n hn)
  | [], _, hd, _, _ => by simp at hd
set_option maxRecDepth 100000 in
theorem ev_of_trod {H : Type} {enc : TypeId × Value → H} {W : World} {base : Nat} {spare : Nat → Bool} {held : Bool} (n : Nat) (cs : List Value) (x : DataW H × List MemPlace) (h : DataW.trod enc Try.prog W base spare held n 56 cs = some x) : ∃ y : Ev, cs = encEv y ∧ True := by
  obtain ⟨xs, m, rfl, rfl, hl, hxl, hx⟩ := DataW.trod_struct Try.underlying56 h
  have c56 : Try.prog.cellsOf 56 = 3 := by kernel_rfl
  have c3 : Try.prog.cellsOf 3 = 1 := by kernel_rfl
  have c40 : Try.prog.cellsOf 40 = 1 := by kernel_rfl
  rw [c56] at hl
  simp at hxl
  match cs, hl with
  | [a, b, c], _ =>
    have h0 : DataW.trod enc Try.prog W base spare held m 3 (List.take (Try.prog.cellsOf 3) (List.drop 0 [a, b, c])) = xs[0]? := hx 0 _ rfl
    have h1 : DataW.trod enc Try.prog W base spare held m 40 (List.take (Try.prog.cellsOf 40) (List.drop 1 [a, b, c])) = xs[1]? := hx 1 _ rfl
    have h2 : DataW.trod enc Try.prog W base spare held m 40 (List.take (Try.prog.cellsOf 40) (List.drop 2 [a, b, c])) = xs[2]? := hx 2 _ rfl
    rw [List.getElem?_eq_getElem (by omega)] at h0 h1 h2
    simp only [c3, c40, List.drop_zero, List.take_succ_cons, List.take_zero, List.drop_succ_cons] at h0 h1 h2
    obtain ⟨p, hp, _, wp⟩ := DataW.trod_int Try.underlying3 h0
    obtain ⟨q, hq, _, wq⟩ := DataW.trod_int Try.underlying40 h1
    obtain ⟨r, hr, _, wr⟩ := DataW.trod_int Try.underlying40 h2
    simp only [List.cons.injEq, and_true] at hp hq hr
    subst hp; subst hq; subst hr
    exact ⟨⟨p, q, r⟩, rfl, trivial⟩
theorem evs_of_trod {H : Type} {enc : TypeId × Value → H} {W : World} {base : Nat} {spare : Nat → Bool} {held : Bool} (n : Nat) (cs : List Value) (x : DataW H × List MemPlace) (h : DataW.trod enc Try.prog W base spare held n 53 cs = some x) :
    ∃ y : Row, cs = [y.1] ∧ ∃ k, Rd W y.1 k 3 (evCells y.2) ∧ y.2.length = k ∧ ((x.1 = .nil ∧ k = 0) ∨ ∃ el sp, x.1 = .slice el sp ∧ el.length = k) := by
  obtain ⟨a, len, cap, hcs, ys, hl, hr, hd⟩ := rd_of_trodD encEv (fun _ _ => True) (sz := 3) Try.underlying53 (by kernel_rfl) (by decide) (fun _ => rfl) (fun n cs x h => ev_of_trod n cs x h) h
  refine ⟨(.slice a len cap, ys), hcs, len, hr, hl, ?_⟩
  rcases hd with hd | ⟨el, sp, h1, h2, _⟩
  · exact .inl hd
  · exact .inr ⟨el, sp, h1, h2⟩
theorem rows_of_trod {H : Type} {enc : TypeId × Value → H} {W : World} {base : Nat} {spare : Nat → Bool} {held : Bool} {a : Option Addr} {len cap : Nat} {d : DataW H} {p : List MemPlace} {ts : List TypeId} {ds : List (DataW H)} {j : Nat}
    (hsz : (DataW.weightsEach Try.prog ts ds).all (· ≤ reachBytes) = true) (ht : ts[j]? = some 49) (hd : ds[j]? = some d)
    (h : DataW.Trod enc Try.prog W base spare held 49 (.slice a len cap) d p) :
    (∃ ys : List Row, ys.length = len ∧ Rd W (.slice a len cap) len 1 (rowCells ys) ∧ ∀ y ∈ ys, RowOk W y) ∧ ((d = .nil ∧ len = 0) ∨ ∃ el sp, d = .slice el sp ∧ el.length = len) := by
  obtain ⟨fuel, h⟩ := h
  obtain ⟨a', len', cap', hcs, ys, hl, hr, hdd⟩ := rd_of_trodD (fun r : Row => [r.1]) (fun y d => ∃ k, Rd W y.1 k 3 (evCells y.2) ∧ y.2.length = k ∧ ((d = .nil ∧ k = 0) ∨ ∃ el sp, d = .slice el sp ∧ el.length = k)) (sz := 1) Try.underlying49 (by kernel_rfl) (by decide) (fun _ => rfl) (fun n cs x h => evs_of_trod n cs x h) h
  simp [Value.cells] at hcs
  obtain ⟨rfl, rfl, rfl⟩ := hcs
  refine ⟨⟨ys, hl, hr, fun y hy => ?_⟩, ?_⟩
  · obtain ⟨i, hi⟩ := List.getElem?_of_mem hy
    rcases hdd with ⟨_, h0⟩ | ⟨el, sp, h1, h2, h3⟩
    · have := (List.getElem?_eq_some_iff.1 hi).1
      omega
    · obtain ⟨di, hdi, k, hk1, hk2, hk3⟩ := h3 i y hi
      refine ⟨k, hk1, hk2, ?_⟩
      rcases hk3 with ⟨_, rfl⟩ | ⟨el2, sp2, h4, h5⟩
      · simp
      · have hb : Try.prog.bytesOf 56 = 24 := by kernel_rfl
        have hm : (el2.length + sp2.length) * 24 ∈ di.weights Try.prog 53 := by
          rw [h4]
          simp [DataW.weights, Try.underlying53, hb]
        have hm2 : (el2.length + sp2.length) * 24 ∈ d.weights Try.prog 49 := by
          rw [show d = .slice el sp from h1]
          simp only [DataW.weights, Try.underlying49, List.mem_cons, List.mem_append]
          exact .inr (.inl (weightsAll_mem (List.mem_of_getElem? hdi) _ hm))
        have := List.all_eq_true.1 hsz _ (DataW.weights_mem_each ht hd _ hm2)
        have h7 : (el2.length + sp2.length) * 24 ≤ reachBytes := by simpa using this
        unfold reachBytes at h7
        omega
  · rcases hdd with h0 | ⟨el, sp, h1, h2, _⟩
    · exact .inl h0
    · exact .inr ⟨el, sp, h1, h2⟩
end Go.Proofs.Ytlcmjpligaiadaa
