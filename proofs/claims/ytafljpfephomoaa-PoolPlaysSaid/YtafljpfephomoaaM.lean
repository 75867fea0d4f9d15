/- Maps with whole numbers for keys, made by the call: a list of keys and elements; looked up, written. No program here. -/
import Derived.Test.YtafljpfephomoaaBase
import Derived.Maps.OwnOps
namespace Go.Proofs.Ytafljpfephomoaa
open Go.RowKit

def getA : List (Int × Value) → Int → Option Value
  | [], _ => none
  | (a, v) :: l, k => if a = k then some v else getA l k
def putA : List (Int × Value) → Int → Value → List (Int × Value)
  | [], k, v => [(k, v)]
  | (a, u) :: l, k, v => if a = k then (a, v) :: l else (a, u) :: putA l k v
theorem getA_putA (l : List (Int × Value)) (k k' : Int) (v : Value) : getA (putA l k v) k' = if k = k' then some v else getA l k' := by
  induction l with
  | nil => simp [putA, getA]
  | cons p l ih =>
    obtain ⟨a, u⟩ := p
    simp only [putA]
    split
    · subst ‹a = k›
      simp only [getA]
      split <;> rfl
    · simp only [getA, ih]
      split
      · split
        · subst_vars; contradiction
        · rfl
      · rfl

/-- Block b is a map with these keys and elements, in this order. -/
def MapI (w : World) (b : Nat) (f : List (Int × Value)) : Prop :=
  ∃ es clock, w.heap[b]? = some (.map es clock) ∧ es.toList.map (fun e => (e.key, e.val)) = f.map fun p => (Value.int .i64 p.1, p.2)

theorem MapI.lt {w : World} {b : Nat} {f : List (Int × Value)} (h : MapI w b f) : b < w.heap.size := by
  obtain ⟨es, c, h, _⟩ := h; exact (Array.getElem?_eq_some_iff.1 h).1
theorem MapI.same {w w' : World} {b : Nat} {f : List (Int × Value)} (h : MapI w b f) (hb : w'.heap[b]? = w.heap[b]?) : MapI w' b f := by
  obtain ⟨es, c, h, h2⟩ := h; exact ⟨es, c, by rw [hb]; exact h, h2⟩
theorem MapI.mod {S : Nat → Prop} {w w' : World} {b : Nat} {f : List (Int × Value)} (h : MapI w b f) (hm : Mod S w w') (hs : ¬ S b) : MapI w' b f := h.same (hm.block b h.lt hs)
theorem MapI.alloc {w : World} {b : Nat} {f : List (Int × Value)} (h : MapI w b f) (o : Obj) : MapI (w.alloc o) b f := h.same (Below.heap_alloc w o b h.lt)
theorem MapI.grown {w w' : World} {b : Nat} {f : List (Int × Value)} {row : Option Nat} (h : MapI w b f) (hg : w.grownBy w' row) (hr : row ≠ some b) : MapI w' b f := h.same (hg.block b h.lt (Ne.symm hr))
theorem MapI.setCell {w : World} {b : Nat} {f : List (Int × Value)} (h : MapI w b f) (a : Addr) (v : Value) : MapI (w.setCell a v) b f := by
  obtain ⟨es, c, h, h2⟩ := h
  refine ⟨es, c, ?_, h2⟩
  simp only [World.setCell, Array.getElem?_modify, h]
  split <;> simp
theorem MapI.new (w : World) : MapI (w.alloc (.map #[] 0)) w.heap.size [] := ⟨#[], 0, by show (w.heap.push _)[w.heap.size]? = _; simp, rfl⟩

open Go.Instr in
theorem findNow_I (k : Int) : ∀ (es : List MapEntry) (f : List (Int × Value)) (i : Nat), es.map (fun e => (e.key, e.val)) = f.map (fun p => (Value.int .i64 p.1, p.2)) →
    ∃ r, findNow (.int .i64) (.int .i64 k) es i = some r ∧ r.map (·.2) = getA f k ∧
      (r = none → putA f k = fun v => f ++ [(k, v)]) ∧ (∀ j v, r = some (j, v) → i ≤ j ∧ j - i < es.length ∧ (es[j - i]?).map (·.key) = some (.int .i64 k) ∧
        ∀ u, (es.modify (j - i) fun e => { e with key := .int .i64 k, val := u }).map (fun e => (e.key, e.val)) = (putA f k u).map fun p => (Value.int .i64 p.1, p.2)) := by
  intro es
  induction es with
  | nil =>
    intro f i h
    have : f = [] := by cases f <;> simp_all
    subst this
    refine ⟨none, rfl, rfl, fun _ => rfl, fun j v h => by cases h⟩
  | cons e es ih =>
    intro f i h
    match f, h with
    | (a, u) :: f, h =>
      simp only [List.map_cons, List.cons.injEq, Prod.mk.injEq] at h
      obtain ⟨⟨h1, h2⟩, h3⟩ := h
      simp only [findNow, h1, sameNow, if_true]
      by_cases hk : k = a
      · subst hk
        simp only [beq_self_eq_true]
        refine ⟨_, rfl, by simp [getA, h2], (fun h => by cases h), ?_⟩
        intro j v hj
        simp only [Option.some.injEq, Prod.mk.injEq] at hj
        obtain ⟨rfl, rfl⟩ := hj
        refine ⟨Nat.le_refl _, by simp, by simp [h1], fun u' => ?_⟩
        simp [putA, h3]
      · have hb : (k == a) = false := by simpa using hk
        have hk' : ¬ a = k := fun e => hk e.symm
        simp only [hb]
        obtain ⟨r, r1, r2, r3, r4⟩ := ih f (i + 1) h3
        refine ⟨r, r1, by simp [getA, hk', r2], fun hr => ?_, fun j v hj => ?_⟩
        · funext v
          simp [putA, hk', r3 hr]
        · obtain ⟨q1, q2, q3, q4⟩ := r4 j v hj
          have e1 : j - i = (j - (i + 1)) + 1 := by omega
          refine ⟨by omega, by simp; omega, by rw [e1]; simpa using q3, fun u' => ?_⟩
          rw [e1]
          simp only [List.modify_succ_cons, List.map_cons, q4, putA, if_neg hk', h1, h2]

theorem getMap {P : Program} {w : World} {r : Nat} {es : Array MapEntry} {clock : Nat} (hb : w.heap[r]? = some (.map es clock)) : (getObj r).run P w = .ok (.map es clock) w := by
  simp [getObj, Sem.run, hb]
theorem setMap {P : Program} {w : World} {r : Nat} {es : Array MapEntry} {clock : Nat} (hb : w.heap[r]? = some (.map es clock)) (o : Obj) : (setObj r o).run P w = .ok () { w with heap := w.heap.setIfInBounds r o } := by
  simp [setObj, Sem.run, hb]
theorem run_checkKey_I {P : Program} {k : TypeId} (hk : P.underlying k = some (.int .i64)) (w : World) (x : Int) (n : Nat) (em : Bool) : (Instr.checkKey em (n + 1) k (.int .i64 x)).run P w = .ok () w := by
  simp only [Instr.checkKey, Sem.run_bind, run_underlying hk, Result.andThen_ok, Sem.run_pure]

open Go.Instr in
theorem run_lookup_I {P : Program} {w : World} {t k e : TypeId} {z : Value} {b : Nat} {f : List (Int × Value)} (ht : P.underlying t = some (.map k e)) (hk : P.underlying k = some (.int .i64))
    (hz : ∀ w, (zeroValue e).run P w = .ok z w) (h : MapI w b f) (x : Int) (ok : Bool) :
    (Instr.lookup t (.map (some b)) (.int .i64 x) ok).run P w = .ok (if ok then .tuple #[(getA f x).getD z, .bool (getA f x).isSome] else (getA f x).getD z) w := by
  obtain ⟨es, c, hh, he⟩ := h
  obtain ⟨r, r1, r2, _, _⟩ := findNow_I x es.toList f 0 he
  have hc : ∀ em : Bool, (checkKey em 10000 k (.int .i64 x)).run P w = .ok () w := fun em => run_checkKey_I hk w x 9999 em
  have hf : (findKey k (.int .i64 x) es.toList).run P w = .ok r w := by
    simp only [findKey, Sem.run_bind, run_underlying hk, Result.andThen_ok, r1, Sem.run_pure]
  simp only [Instr.lookup, Sem.run_bind, run_underlying ht, Result.andThen_ok, getMap hh, Sem.run_pure, hc, hf]
  rw [← r2]
  cases r with
  | none => simp only [Sem.run_bind, hz, Result.andThen_ok, Sem.run_pure, Option.map_none, Option.getD_none, Option.isSome_none]
  | some p => simp only [Sem.run_bind, Result.andThen_ok, Sem.run_pure, Option.map_some, Option.getD_some, Option.isSome_some]

open Go.Instr in
theorem run_update_I {P : Program} {w : World} {t k e : TypeId} {b : Nat} {f : List (Int × Value)} (ht : P.underlying t = some (.map k e)) (hk : P.underlying k = some (.int .i64)) (h : MapI w b f) (x : Int) (v : Value) :
    ∃ w', (Instr.mapUpdate t (.map (some b)) (.int .i64 x) v).run P w = .ok () w' ∧ MapI w' b (putA f x v) ∧ w.grownBy w' (some b) ∧ w'.heap.size = w.heap.size := by
  obtain ⟨es, c, hh, he⟩ := h
  obtain ⟨r, r1, r2, r3, r4⟩ := findNow_I x es.toList f 0 he
  have hc : ∀ em : Bool, (checkKey em 10000 k (.int .i64 x)).run P w = .ok () w := fun em => run_checkKey_I hk w x 9999 em
  have hf : (findKey k (.int .i64 x) es.toList).run P w = .ok r w := by
    simp only [findKey, Sem.run_bind, run_underlying hk, Result.andThen_ok, r1, Sem.run_pure]
  have hlt : b < w.heap.size := (Array.getElem?_eq_some_iff.1 hh).1
  have hset : ∀ o : Obj, w.grownBy { w with heap := w.heap.setIfInBounds b o } (some b) := fun o =>
    ⟨rfl, rfl, rfl, by simp, fun k hk hne => by simp only [Array.getElem?_setIfInBounds]; rw [if_neg (fun e => hne (by rw [e]))]⟩
  have hget : ∀ o : Obj, ({ w with heap := w.heap.setIfInBounds b o } : World).heap[b]? = some o := fun o => by simp [hlt]
  cases r with
  | none =>
    refine ⟨{ w with heap := w.heap.setIfInBounds b (.map (es.push { key := .int .i64 x, val := v, born := c }) (c + 1)) }, ?_, ⟨_, _, hget _, ?_⟩, hset _, by simp⟩
    · simp only [Instr.mapUpdate, Sem.run_bind, run_underlying ht, Result.andThen_ok, getMap hh, hc, hf, setMap hh]
    · rw [r3 rfl]; simp [he]
  | some p =>
    obtain ⟨j, u⟩ := p
    obtain ⟨q1, q2, q3, q4⟩ := r4 j u rfl
    simp only [Nat.sub_zero, Array.getElem?_toList] at q3
    refine ⟨{ w with heap := w.heap.setIfInBounds b (.map (es.modify j fun e => { e with key := .int .i64 x, val := v }) c) }, ?_, ⟨_, _, hget _, ?_⟩, hset _, by simp⟩
    · have hks : (keyThatStays (((es[j]?).map (·.key)).getD (.int .i64 x)) (.int .i64 x)).run P w = .ok (.int .i64 x) w := by
        rw [q3]
        show (keyThatStays (.int .i64 x) (.int .i64 x)).run P w = _
        unfold keyThatStays
        rw [if_pos (by unfold sameBits; simp)]
        rfl
      simp only [Instr.mapUpdate, Sem.run_bind, run_underlying ht, Result.andThen_ok, getMap hh, hc, hf, hks, setMap hh]
    · have := q4 v
      simpa using this

/-- 'm[k]' at the operation. -/
theorem wpList_lookup_I {P : Program} (w : World) {ops : Array Oper} {rest : List Oper} {o : Oper} {a : Act} {Q : Exit → Act → World → Prop}
    (hg : o.guard = none) (m x : Operand) (t : TypeId) (ok : Bool) (hop : o.op = Op.lookup t m x ok) (k e : TypeId) (z : Value) (ht : P.underlying t = some (.map k e)) (hk : P.underlying k = some (.int .i64))
    (hz : ∀ w, (zeroValue e).run P w = .ok z w) (b : Nat) (f : List (Int × Value)) (hm : a.eval m = .map (some b)) (h : MapI w b f) (n : Int) (hx : a.eval x = .int .i64 n)
    (hK : wpList P ops Q rest (a.put o.dst (if ok then .tuple #[(getA f n).getD z, .bool (getA f n).isSome] else (getA f n).getD z)) w) :
    wpList P ops Q (o :: rest) a w := by
  refine wpList_plain hg fun K' hK' => ?_
  have hrun := run_lookup_I ht hk hz h n ok
  unfold Oper.wp
  simp only [execOp, hop, hm, hx, Sem.run_bind, hrun, Result.andThen_ok, Sem.run_pure]
  exact hK' _ _ hK

/-- 'm[k] = v' at the operation. -/
theorem wpList_update_I {P : Program} (w : World) {ops : Array Oper} {rest : List Oper} {o : Oper} {a : Act} {Q : Exit → Act → World → Prop}
    (hg : o.guard = none) (m x v : Operand) (t : TypeId) (hop : o.op = Op.mapUpdate t m x v) (k e : TypeId) (ht : P.underlying t = some (.map k e)) (hk : P.underlying k = some (.int .i64))
    (b : Nat) (f : List (Int × Value)) (hm : a.eval m = .map (some b)) (h : MapI w b f) (n : Int) (hx : a.eval x = .int .i64 n) (u : Value) (hv : a.eval v = u)
    (hK : ∀ w', MapI w' b (putA f n u) → w.grownBy w' (some b) → w'.heap.size = w.heap.size → wpList P ops Q rest (a.put o.dst undef) w') :
    wpList P ops Q (o :: rest) a w := by
  refine wpList_plain hg fun K' hK' => ?_
  obtain ⟨w', hrun, h1, h2, h3⟩ := run_update_I ht hk h n u
  unfold Oper.wp
  simp only [execOp, hop, hm, hx, hv, Sem.run_bind, hrun, Result.andThen_ok, Sem.run_pure]
  exact hK' _ _ (hK w' h1 h2 h3)
end Go.Proofs.Ytafljpfephomoaa
