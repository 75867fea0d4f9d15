/- append to a slice that is full: a new row, whatever the old one is. No program here. -/
import Derived.Test.YtlcmjpligaiadaaCp
import Derived.Deep.AppendSrc
namespace Go.Proofs.Ytlcmjpligaiadaa
open Go.RowKit
section
variable {P : Program}
theorem rd_src {w : World} {lv : Value} {m size : Nat} {news : List Value} {t e' : TypeId} (hk : P.underlying t = some (.slice e')) (hr : Rd w lv m size news) (hm : 0 < m) (h1 : ∀ u ∈ news, u.oneCell' = true) : Src P size t lv m news w := by
  obtain ⟨sa, sc, rfl, hnl, hmc, _, hx⟩ := hr
  obtain ⟨lb, lo, rfl, hlb, hc⟩ := hx (by omega)
  exact Src.ofSlice w hk _ m sc news hnl (fun j u hu => by
    have hj : j < m * size := by rw [← hnl]; exact (List.getElem?_eq_some_iff.1 hu).1
    have : (⟨lb, lo, none⟩ : Addr).add j = ⟨lb, lo + j, none⟩ := by unfold Addr.add; split <;> simp_all
    rw [this, hc j hj]
    exact hu) h1
theorem run_append_full (w : World) (H : Nat) (t ty e : TypeId) (i : TypeInfo) (z : Value) (size bytes : Nat) (ht : P.underlying t = some (.slice e)) (hi : P.info? e = some i) (hz : i.zero = some z)
    (hsize : i.size = size) (hby : i.bytes = bytes) (hzs : z.cells.size = size)
    (b off n : Nat) (xs : List Value) (hn0 : n ≠ 0) (ho : Rd w (.slice (some ⟨b, off, none⟩) n n) n size xs)
    (sv : Value) (m : Nat) (news : List Value) (hm : 0 < m) (hr : Rd w sv m size news) (h1 : ∀ u ∈ news, u.oneCell' = true)
    (h63 : n + m ≤ maxLen) (hbytes : (n + m) * bytes ≤ 140737488355328) (hH : H ≤ w.heap.size) :
    ∃ v' w', (Builtin.append_ #[t, t] ty #[.slice (some ⟨b, off, none⟩) n n, sv]).run P w = .ok v' w' ∧ w'.ownsRow H e size v' (n + m) (xs ++ news) ∧ Below w.heap.size w w' := by
  have hn0 := hn0
  have hxl : xs.length = n * size := by obtain ⟨_, _, _, h, _⟩ := ho; exact h
  have hnl : news.length = m * size := by obtain ⟨_, _, _, h, _⟩ := hr; exact h
  have hcells : ∀ j u, xs[j]? = some u → w.cell? ((⟨b, off, none⟩ : Addr).add j) = some u := fun j u hu => by
    have hj : j < n * size := by rw [← hxl]; exact (List.getElem?_eq_some_iff.1 hu).1
    have : (⟨b, off, none⟩ : Addr).add j = ⟨b, off + j, none⟩ := by unfold Addr.add; split <;> simp_all
    rw [this, ho.at hj]
    exact hu
  subst hsize
  subst hby
  have hsrc := rd_src ht hr hm h1
  have hcap : n < n + m := by omega
  have hfit := growslice_fits hcap hbytes
  have hrun := run_append_grow_src (P := P) w t t ty e i z ht hi hz (some ⟨b, off, none⟩) n n xs (run_firstCells_some w.drew i.size n _ n n xs hxl hcells) sv m news hsrc hcap (by unfold maxLen at h63; omega) (by omega)
  refine ⟨_, _, hrun, ⟨by rw [List.length_append, hxl, hnl, Nat.add_mul], .inr ⟨w.heap.size, grownCap w (n + m) n e, (xs ++ news).toArray ++ Builtin.zeroCells z.cells (grownCap w (n + m) n e - (n + m)), rfl, hH, ?_, grownCap_ge w (n + m) n e, grownCap_le_maxLen w (n + m) n e h63, ?_, ?_⟩⟩, ((Below.refl _ w).drew).alloc (Nat.le_refl _) _⟩
  · exact heap_alloc_new w.drew _
  · rw [Array.size_append, size_zeroCells, hzs, List.size_toArray, List.length_append, hxl, hnl, ← Nat.add_mul, ← Nat.add_mul]
    congr 1
    have := grownCap_ge w (n + m) n e
    omega
  · rw [Array.toList_append, List.toList_toArray, Nat.add_mul, ← hxl, ← hnl, ← List.length_append, List.take_left]
theorem wpList_append_full {ops : Array Oper} {rest : List Oper} {o : Oper} {a : Act} {w : World} {Q : Exit → Act → World → Prop} (hgd : o.guard = none) (s x : Operand) (t : TypeId)
    (hop : o.op = .call { callee := .builtin .append, args := #[s, x], argTypes := #[t, t] })
    (H : Nat) (e : TypeId) (i : TypeInfo) (z : Value) (size bytes : Nat) (ht : P.underlying t = some (.slice e)) (hi : P.info? e = some i) (hz : i.zero = some z)
    (hsize : i.size = size) (hby : i.bytes = bytes) (hzs : z.cells.size = size)
    (b off n : Nat) (hs : a.eval s = .slice (some ⟨b, off, none⟩) n n) (xs : List Value) (hn0 : n ≠ 0) (ho : Rd w (.slice (some ⟨b, off, none⟩) n n) n size xs)
    (sv : Value) (m : Nat) (news : List Value) (hx : a.eval x = sv) (hm : 0 < m) (hr : Rd w sv m size news) (h1 : ∀ u ∈ news, u.oneCell' = true)
    (h63 : n + m ≤ maxLen) (hbytes : (n + m) * bytes ≤ 140737488355328) (hH : H ≤ w.heap.size)
    (h : ∀ v' w', w'.ownsRow H e size v' (n + m) (xs ++ news) → Below w.heap.size w w' → wpList P ops Q rest (a.put o.dst v') w') : wpList P ops Q (o :: rest) a w :=
  wpList_plain hgd fun _ hK => by
    obtain ⟨v', w', hr, h2, h3⟩ := run_append_full (P := P) w H t o.type e i z size bytes ht hi hz hsize hby hzs b off n xs hn0 ho sv m news hm hr h1 h63 hbytes hH
    unfold Oper.wp execOp
    simp only [hop, resolve, invoke, builtin, Sem.run_bind, Sem.run_pure, Result.andThen_ok, List.map_toArray, List.map_cons, List.map_nil, hs, hx, hr]
    exact hK _ _ (h v' w' h2 h3)
end
end Go.Proofs.Ytlcmjpligaiadaa
