/- A slice of the call's own that begins anywhere in its row: cut in front, appended to behind. No program here. -/
import Derived.Test.YtlcmjpligaiadaaCp
import Derived.Deep.AppendSrc
import Derived.Deep.Upon
namespace Go.Proofs.Ytlcmjpligaiadaa
open Go.RowKit
def Off (w : World) (H : Nat) (e : TypeId) (sz : Nat) (tv : Value) (n : Nat) (xs : List Value) : Prop :=
  xs.length = n * sz ∧ ((tv = .slice none 0 0 ∧ n = 0) ∨ ∃ (tb off cap : Nat) (A E : List Value), tv = .slice (some ⟨tb, off, none⟩) n cap ∧ H ≤ tb ∧ Blk w tb e (A ++ (xs ++ E)) ∧ A.length = off ∧ (cap - n) * sz ≤ E.length ∧ n ≤ cap ∧ cap ≤ maxLen)
theorem Off.nil (w : World) (H : Nat) (e : TypeId) (sz : Nat) : Off w H e sz (.slice none 0 0) 0 [] := ⟨by simp, .inl ⟨rfl, rfl⟩⟩
theorem Off.rd {w : World} {H e sz n : Nat} {tv : Value} {xs : List Value} (h : Off w H e sz tv n xs) : Rd w tv n sz xs := by
  obtain ⟨hl, ⟨rfl, rfl⟩ | ⟨tb, off, cap, A, E, rfl, h1, h2, h3, h4, h5, h6⟩⟩ := h
  · exact ⟨none, 0, rfl, hl, Nat.le_refl _, by decide, fun h => (h rfl).elim⟩
  · refine ⟨_, cap, rfl, hl, h5, h6, fun _ => ⟨tb, off, rfl, h2.lt, fun i hi => ?_⟩⟩
    rw [h2.cell, List.getElem?_append_right (by omega), h3, Nat.add_sub_cancel_left, List.getElem?_append_left (by omega)]
theorem Off.keep {w w' : World} {H e sz n : Nat} {tv : Value} {xs : List Value} (h : Off w H e sz tv n xs) (hb : ∀ b, tv.ownBlock = some b → b < w.heap.size → w'.heap[b]? = w.heap[b]?) : Off w' H e sz tv n xs := by
  obtain ⟨hl, ⟨rfl, rfl⟩ | ⟨tb, off, cap, A, E, rfl, h1, h2, h3, h4, h5, h6⟩⟩ := h
  · exact ⟨hl, .inl ⟨rfl, rfl⟩⟩
  · exact ⟨hl, .inr ⟨tb, off, cap, A, E, rfl, h1, by have := hb tb rfl h2.lt; unfold Blk at *; rw [this]; exact h2, h3, h4, h5, h6⟩⟩
theorem Off.mod {S : Nat → Prop} {w w' : World} {H e sz n : Nat} {tv : Value} {xs : List Value} (h : Off w H e sz tv n xs) (hM : Mod S w w') (hs : ∀ b, tv.ownBlock = some b → ¬ S b) : Off w' H e sz tv n xs :=
  h.keep fun b hb hlt => hM.block b hlt (hs b hb)
theorem Off.new {w w' : World} {H e sz n : Nat} {tv : Value} {xs : List Value} (h : Off w H e sz tv n xs) (hB : Below w.heap.size w w') : Off w' H e sz tv n xs :=
  h.keep fun b _ hlt => hB.block b hlt
theorem Off.lt {w : World} {H e sz n : Nat} {tv : Value} {xs : List Value} (h : Off w H e sz tv n xs) {b : Nat} (hb : tv.ownBlock = some b) : b < w.heap.size ∧ H ≤ b := by
  obtain ⟨hl, ⟨rfl, rfl⟩ | ⟨tb, off, cap, A, E, rfl, h1, h2, _⟩⟩ := h
  · simp [Value.ownBlock] at hb
  · simp [Value.ownBlock] at hb; subst hb; exact ⟨h2.lt, h1⟩
theorem Off.shape {w : World} {H e sz n : Nat} {tv : Value} {xs : List Value} (h : Off w H e sz tv n xs) (hn : n ≠ 0) : ∃ tb off cap, tv = .slice (some ⟨tb, off, none⟩) n cap ∧ n ≤ cap ∧ cap ≤ maxLen := by
  obtain ⟨hl, ⟨rfl, rfl⟩ | ⟨tb, off, cap, A, E, rfl, h1, h2, h3, h4, h5, h6⟩⟩ := h
  · exact (hn rfl).elim
  · exact ⟨tb, off, cap, rfl, h5, h6⟩
/-- Cut in front, the row going on. -/
theorem Off.tail {w : World} {H e sz n tb off cap : Nat} {ys xs : List Value} (h : Off w H e sz (.slice (some ⟨tb, off, none⟩) (n + 1) cap) (n + 1) (ys ++ xs)) (hy : ys.length = sz) : Off w H e sz (.slice (some ⟨tb, off + sz, none⟩) n (cap - 1)) n xs := by
  obtain ⟨hl, ⟨h0, _⟩ | ⟨tb', off', cap', A, E, he, h1, h2, h3, h4, h5, h6⟩⟩ := h
  · cases h0
  · simp only [Value.slice.injEq, Option.some.injEq, Addr.mk.injEq, and_true, true_and] at he
    obtain ⟨⟨rfl, rfl⟩, rfl⟩ := he
    refine ⟨?_, .inr ⟨tb, off + sz, cap - 1, A ++ ys, E, rfl, h1, ?_, by rw [List.length_append, h3, hy], ?_, by omega, by omega⟩⟩
    · rw [List.length_append, hy, Nat.succ_mul] at hl; omega
    · rw [List.append_assoc] at h2; rw [List.append_assoc]; exact h2
    · rw [show cap - 1 - n = cap - (n + 1) by omega]; exact h4
/-- The last one cut away, at the row's end. -/
theorem Off.last {w : World} {H e sz tb off : Nat} {xs : List Value} (h : Off w H e sz (.slice (some ⟨tb, off, none⟩) 1 1) 1 xs) : Off w H e sz (.slice (some ⟨tb, off, none⟩) 0 0) 0 [] := by
  obtain ⟨hl, ⟨h0, _⟩ | ⟨tb', off', cap', A, E, he, h1, h2, h3, h4, h5, h6⟩⟩ := h
  · cases h0
  · simp only [Value.slice.injEq, Option.some.injEq, Addr.mk.injEq, and_true, true_and] at he
    obtain ⟨⟨rfl, rfl⟩, rfl⟩ := he
    exact ⟨by simp, .inr ⟨tb, off, 0, A, xs ++ E, rfl, h1, h2, h3, by simp, Nat.le_refl _, by decide⟩⟩
section
variable {P : Program}
theorem run_append_off (w : World) (H : Nat) (t ty e : TypeId) (i : TypeInfo) (z : Value) (size bytes : Nat) (ht : P.underlying t = some (.slice e)) (hi : P.info? e = some i) (hz : i.zero = some z)
    (hsize : i.size = size) (hby : i.bytes = bytes) (hzs : z.cells.size = size) (_hsz : 0 < size)
    (v : Value) (n : Nat) (xs : List Value) (ho : Off w H e size v n xs)
    (sv : Value) (m : Nat) (news : List Value) (hr : Rd w sv m size news) (h1 : ∀ u ∈ news, u.oneCell' = true)
    (h63 : n + m ≤ maxLen) (hbytes : (n + m) * bytes ≤ 140737488355328) (hH : H ≤ w.heap.size) :
    ∃ v' w', (Builtin.append_ #[t, t] ty #[v, sv]).run P w = .ok v' w' ∧ Off w' H e size v' (n + m) (xs ++ news) ∧ Mod (fun j => v.ownBlock = some j) w w' ∧
      (v'.ownBlock = v.ownBlock ∨ v'.ownBlock = some w.heap.size) := by
  obtain ⟨sa, sc, rfl, hnl, hmc, _, hx⟩ := hr
  have hol := ho.1
  rcases Nat.eq_zero_or_pos m with h0 | hpos
  · subst h0
    obtain rfl : news = [] := List.eq_nil_of_length_eq_zero (by simpa using hnl)
    have hsrc : Src P i.size t (.slice sa 0 sc) 0 [] w := by
      cases sa with
      | none => exact Src.ofNil w ht sc
      | some a => exact Src.ofSlice w ht a 0 sc [] (by simp) (by simp) (by simp)
    refine ⟨v, w, ?_, by simpa using ho, Mod.refl _ _, .inl rfl⟩
    obtain ⟨_, ⟨rfl, rfl⟩ | ⟨tb, off, cap, A, E, rfl, g1, g2, g3, g4, g5, g6⟩⟩ := ho
    · exact run_append_nothing w t t ty e i ht hi none 0 0 (Nat.le_refl _) _ hsrc
    · exact run_append_nothing w t t ty e i ht hi _ n cap g5 _ hsrc
  · obtain ⟨lb, lo, rfl, hlb, hc⟩ := hx (by omega)
    have hnews : ∀ j u, news[j]? = some u → w.cell? ((⟨lb, lo, none⟩ : Addr).add j) = some u := by
      intro j u hu
      have hj : j < m * size := by rw [← hnl]; exact (List.getElem?_eq_some_iff.1 hu).1
      have : (⟨lb, lo, none⟩ : Addr).add j = ⟨lb, lo + j, none⟩ := by unfold Addr.add; split <;> simp_all
      rw [this, hc j hj]
      exact hu
    subst hsize
    subst hby
    have hsrc : Src P i.size t (.slice (some ⟨lb, lo, none⟩) m sc) m news w := Src.ofSlice w ht _ m sc news hnl hnews h1
    have hgrow : ∀ (bs : Option Addr) (cap : Nat), v = .slice bs n cap → cap < n + m → (Builtin.firstCells i.size n (.slice bs n cap)).run P w.drew = .ok xs.toArray w.drew →
        ∃ v' w', (Builtin.append_ #[t, t] ty #[v, .slice (some ⟨lb, lo, none⟩) m sc]).run P w = .ok v' w' ∧ Off w' H e i.size v' (n + m) (xs ++ news) ∧ Mod (fun j => v.ownBlock = some j) w w' ∧ (v'.ownBlock = v.ownBlock ∨ v'.ownBlock = some w.heap.size) := by
      intro bs cap hv hcap hold
      subst hv
      have hfit := growslice_fits hcap hbytes
      have hrun := run_append_grow_src (P := P) w t t ty e i z ht hi hz bs n cap xs hold _ m news hsrc hcap (by unfold maxLen at h63; omega) (by omega)
      refine ⟨_, _, hrun, ⟨by rw [List.length_append, hol, hnl, Nat.add_mul], .inr ⟨w.heap.size, 0, _, [], (Builtin.zeroCells z.cells (grownCap w (n + m) cap e - (n + m))).toList, rfl, hH, ?_, rfl, ?_, ?_, ?_⟩⟩, (Mod.refl _ w).drew.trans (Mod.alloc (Mod.refl _ _) _), .inr rfl⟩
      · have := Blk.new w.drew e ((xs ++ news) ++ (Builtin.zeroCells z.cells (grownCap w (n + m) cap e - (n + m))).toList)
        rw [show ([] : List Value) ++ ((xs ++ news) ++ (Builtin.zeroCells z.cells (grownCap w (n + m) cap e - (n + m))).toList) = (xs ++ news) ++ (Builtin.zeroCells z.cells (grownCap w (n + m) cap e - (n + m))).toList from rfl]
        rw [show ((xs ++ news).toArray ++ Builtin.zeroCells z.cells (grownCap w (n + m) cap e - (n + m))) = ((xs ++ news) ++ (Builtin.zeroCells z.cells (grownCap w (n + m) cap e - (n + m))).toList).toArray from by apply Array.ext'; simp]
        exact this
      · rw [zeroCells_len, hzs]
        exact Nat.le_refl _
      · exact grownCap_ge w (n + m) cap e
      · exact grownCap_le_maxLen w (n + m) cap e h63
    obtain ⟨_, ⟨rfl, rfl⟩ | ⟨tb, off, cap, A, E, rfl, g1, g2, g3, g4, g5, g6⟩⟩ := ho
    · exact hgrow none 0 rfl (by omega) (by
        obtain rfl : xs = [] := List.eq_nil_of_length_eq_zero (by simpa using hol)
        exact run_firstCells_none w.drew i.size 0 0 0)
    · by_cases hroom : n + m ≤ cap
      · have hfit : off + n * i.size + news.length ≤ (A ++ (xs ++ E)).length := by
          rw [List.length_append, List.length_append, g3, hol, hnl]
          have : (cap - n) * i.size = (cap - n - m) * i.size + m * i.size := by rw [← Nat.add_mul]; congr 1; omega
          omega
        have hst := run_storeCells_at P tb (off + n * i.size) e news 0 (A ++ (xs ++ E)).toArray w g2 (by simpa using hfit) h1
        simp only [Nat.add_zero] at hst
        have hrun : (Builtin.append_ #[t, t] ty #[.slice (some ⟨tb, off, none⟩) n cap, .slice (some ⟨lb, lo, none⟩) m sc]).run P w = .ok (.slice (some ⟨tb, off, none⟩) (n + m) cap) (w.setRow tb ((A ++ (xs ++ E)).toArray.toList.take (off + n * i.size) ++ news ++ (A ++ (xs ++ E)).toArray.toList.drop (off + n * i.size + news.length)).toArray) := by
          simp [Builtin.append_, run_underlying ht, sizeOf, typeInfo, hi, hsrc.len, hroom, hsrc.cells, Addr.add_lit, hst]
        have hrow : (A ++ (xs ++ E)).toArray.toList.take (off + n * i.size) ++ news ++ (A ++ (xs ++ E)).toArray.toList.drop (off + n * i.size + news.length) = A ++ ((xs ++ news) ++ E.drop news.length) := by
          have e1 : (A ++ xs).length = off + n * i.size := by rw [List.length_append, g3, hol]
          rw [List.toList_toArray, ← List.append_assoc A xs E, ← e1, List.take_left, List.drop_append]
          simp
        rw [hrow] at hrun
        refine ⟨_, _, hrun, ⟨by rw [List.length_append, hol, hnl, Nat.add_mul], .inr ⟨tb, off, cap, A, E.drop news.length, rfl, g1, ?_, g3, ?_, hroom, g6⟩⟩, ?_, .inl rfl⟩
        · unfold Blk; exact setRow_heap w tb _ _ e _ g2
        · rw [List.length_drop, hnl]
          have : (cap - n) * i.size = (cap - (n + m)) * i.size + m * i.size := by rw [← Nat.add_mul]; congr 1; omega
          omega
        · exact ⟨rfl, rfl, rfl, by simp [World.setRow], fun j hj hne => setRow_other w tb j _ (fun e => hne (by rw [e]; rfl))⟩
      · refine hgrow _ cap rfl (by omega) ?_
        exact run_firstCells_some w.drew i.size n _ n cap xs hol (by
          intro j u hu
          have hj : j < xs.length := (List.getElem?_eq_some_iff.1 hu).1
          have : (⟨tb, off, none⟩ : Addr).add j = ⟨tb, off + j, none⟩ := by unfold Addr.add; split <;> simp_all
          rw [this]
          show w.cell? _ = _
          rw [g2.cell, List.getElem?_append_right (by omega), g3, Nat.add_sub_cancel_left, List.getElem?_append_left (by omega), hu])
theorem wp_append_off (w : World) {o : Oper} {a : Act} {K : Act → World → Prop} {Q : Exit → Act → World → Prop} (s x : Operand) (t : TypeId)
    (ho : o.op = .call { callee := .builtin .append, args := #[s, x], argTypes := #[t, t] })
    (H : Nat) (e : TypeId) (i : TypeInfo) (z : Value) (size bytes : Nat) (ht : P.underlying t = some (.slice e)) (hi : P.info? e = some i) (hz : i.zero = some z)
    (hsize : i.size = size) (hby : i.bytes = bytes) (hzs : z.cells.size = size) (hsz : 0 < size)
    (v : Value) (n : Nat) (xs : List Value) (hs : a.eval s = v) (hown : Off w H e size v n xs)
    (sv : Value) (m : Nat) (news : List Value) (hx : a.eval x = sv) (hr : Rd w sv m size news) (h1 : ∀ u ∈ news, u.oneCell' = true)
    (h63 : n + m ≤ maxLen) (hbytes : (n + m) * bytes ≤ 140737488355328) (hbase : H ≤ w.heap.size)
    (h : ∀ v' w', Off w' H e size v' (n + m) (xs ++ news) → Mod (fun j => v.ownBlock = some j) w w' → (v'.ownBlock = v.ownBlock ∨ v'.ownBlock = some w.heap.size) → K (a.put o.dst v') w') : o.wp P a w K Q := by
  obtain ⟨v', w', hr, h2, h3, h4⟩ := run_append_off (P := P) w H t o.type e i z size bytes ht hi hz hsize hby hzs hsz v n xs hown sv m news hr h1 h63 hbytes hbase
  unfold Oper.wp execOp
  simp only [ho, resolve, invoke, builtin, Sem.run_bind, Sem.run_pure, Result.andThen_ok, List.map_toArray, List.map_cons, List.map_nil, hs, hx, hr]
  exact h v' w' h2 h3 h4
theorem wpList_append_off {ops : Array Oper} {rest : List Oper} {o : Oper} {a : Act} {w : World} {Q : Exit → Act → World → Prop} (hgd : o.guard = none) (s x : Operand) (t : TypeId)
    (ho : o.op = .call { callee := .builtin .append, args := #[s, x], argTypes := #[t, t] })
    (H : Nat) (e : TypeId) (i : TypeInfo) (z : Value) (size bytes : Nat) (ht : P.underlying t = some (.slice e)) (hi : P.info? e = some i) (hz : i.zero = some z)
    (hsize : i.size = size) (hby : i.bytes = bytes) (hzs : z.cells.size = size) (hsz : 0 < size)
    (v : Value) (n : Nat) (xs : List Value) (hs : a.eval s = v) (hown : Off w H e size v n xs)
    (sv : Value) (m : Nat) (news : List Value) (hx : a.eval x = sv) (hr : Rd w sv m size news) (h1 : ∀ u ∈ news, u.oneCell' = true)
    (h63 : n + m ≤ maxLen) (hbytes : (n + m) * bytes ≤ 140737488355328) (hbase : H ≤ w.heap.size)
    (h : ∀ v' w', Off w' H e size v' (n + m) (xs ++ news) → Mod (fun j => v.ownBlock = some j) w w' → (v'.ownBlock = v.ownBlock ∨ v'.ownBlock = some w.heap.size) → wpList P ops Q rest (a.put o.dst v') w') : wpList P ops Q (o :: rest) a w :=
  wpList_plain hgd fun _ hK => wp_append_off w s x t ho H e i z size bytes ht hi hz hsize hby hzs hsz v n xs hs hown sv m news hx hr h1 h63 hbytes hbase fun v' w' h2 h3 h4 => hK _ _ (h v' w' h2 h3 h4)
end
end Go.Proofs.Ytlcmjpligaiadaa
