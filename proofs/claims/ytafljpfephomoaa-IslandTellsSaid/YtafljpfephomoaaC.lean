/- What the groups are, in plain Lean: they hang on the links alone. -/
import Derived.Test.YtafljpfephomoaaG
import Derived.Test.YtafljpfephomoaaRp
namespace Go.Proofs.Ytafljpfephomoaa
open Go.RowKit
/-- Each thing's number is at most itself, one for what a link joins, and of its own kind: whatever joined things have in common, it has with its number. -/
structure Canon (n : Nat) (ws : List Bool) (ls : List (Int × Int)) (g : List Int) : Prop where
  len : g.length = n
  lo : ∀ i, i < n → 0 ≤ g[i]?.getD 0
  hi : ∀ i, i < n → g[i]?.getD 0 ≤ i
  const : ∀ p ∈ ls, joinsB n ws p.1 = true → joinsB n ws p.2 = true → g[p.1.toNat]?.getD 0 = g[p.2.toNat]?.getD 0
  conn : ∀ h : Nat → Int, (∀ p ∈ ls, joinsB n ws p.1 = true → joinsB n ws p.2 = true → h p.1.toNat = h p.2.toNat) → ∀ i, i < n → h (g[i]?.getD 0).toNat = h i
theorem upTo_get {n i : Nat} (h : i < n) : (upTo n)[i]?.getD 0 = (i : Int) := by simp [upTo, h]
theorem Canon.init (n : Nat) (ws : List Bool) : Canon n ws [] (upTo n) :=
  ⟨by simp [upTo], fun i hi => by rw [upTo_get hi]; omega, fun i hi => by rw [upTo_get hi]; omega, by simp, fun h _ i hi => by rw [upTo_get hi]; simp⟩
theorem joinTwo_get2 (g : List Int) (x y : Int) (i : Nat) (h : i < g.length) : (joinTwo g x y)[i]?.getD 0 = if g[i]?.getD 0 = max x y then min x y else g[i]?.getD 0 := by
  unfold joinTwo
  rw [List.getElem?_map, List.getElem?_eq_getElem h]
  simp only [Option.map_some, Option.getD_some]
theorem Canon.step {n : Nat} {ws : List Bool} {ls : List (Int × Int)} {g : List Int} (hc : Canon n ws ls g) (p : Int × Int) : Canon n ws (ls ++ [p]) (joinStep n ws g p) := by
  unfold joinStep
  by_cases hj : (joinsB n ws p.1 && joinsB n ws p.2) = true
  · rw [if_pos hj]
    rw [Bool.and_eq_true] at hj
    obtain ⟨h1, h2⟩ := hj
    have r1 := joinsB_range h1
    have r2 := joinsB_range h2
    have l1 := hc.lo p.1.toNat (by omega)
    have l2 := hc.lo p.2.toNat (by omega)
    generalize hx : g[p.1.toNat]?.getD 0 = x at l1
    generalize hy : g[p.2.toNat]?.getD 0 = y at l2
    refine ⟨by simp [joinTwo, hc.len], fun i hi => ?_, fun i hi => ?_, fun q hq q1 q2 => ?_, fun h hh i hi => ?_⟩
    · rw [joinTwo_get2 _ _ _ _ (by rw [hc.len]; exact hi)]
      have := hc.lo i hi
      split <;> omega
    · rw [joinTwo_get2 _ _ _ _ (by rw [hc.len]; exact hi)]
      have := hc.hi i hi
      split <;> omega
    · have s1 := joinsB_range q1
      have s2 := joinsB_range q2
      rw [joinTwo_get2 _ _ _ _ (by rw [hc.len]; omega), joinTwo_get2 _ _ _ _ (by rw [hc.len]; omega)]
      rcases List.mem_append.1 hq with hq | hq
      · rw [hc.const q hq q1 q2]
      · simp at hq
        subst hq
        rw [hx, hy]
        split <;> split <;> omega
    · have hold := hc.conn h (fun q hq => hh q (List.mem_append_left _ hq)) i hi
      have hxy : h x.toNat = h y.toNat := by
        rw [← hx, ← hy, hc.conn h (fun q hq => hh q (List.mem_append_left _ hq)) _ (by omega), hc.conn h (fun q hq => hh q (List.mem_append_left _ hq)) _ (by omega)]
        exact hh p (by simp) h1 h2
      rw [joinTwo_get2 _ _ _ _ (by rw [hc.len]; exact hi)]
      split
      · rename_i e
        rw [← hold, e]
        rcases Int.le_total x y with e2 | e2
        · rw [Int.min_eq_left e2, Int.max_eq_right e2]; exact hxy
        · rw [Int.min_eq_right e2, Int.max_eq_left e2]; exact hxy.symm
      · exact hold
  · rw [if_neg hj]
    have hno : ¬ (joinsB n ws p.1 = true ∧ joinsB n ws p.2 = true) := by rw [← Bool.and_eq_true]; exact hj
    refine ⟨hc.len, hc.lo, hc.hi, fun q hq q1 q2 => ?_, fun h hh i hi => hc.conn h (fun q hq => hh q (List.mem_append_left _ hq)) i hi⟩
    rcases List.mem_append.1 hq with hq | hq
    · exact hc.const q hq q1 q2
    · simp at hq; subst hq; exact (hno ⟨q1, q2⟩).elim
theorem Canon.groups (n : Nat) (ws : List Bool) (ls : List (Int × Int)) : Canon n ws ls (groupsN n ws ls) := by
  have : ∀ (ls pre : List (Int × Int)) (g : List Int), Canon n ws pre g → Canon n ws (pre ++ ls) (ls.foldl (joinStep n ws) g) := by
    intro ls
    induction ls with
    | nil => intro pre g h; simpa using h
    | cons p ls ih =>
      intro pre g h
      have := ih (pre ++ [p]) _ (h.step p)
      simpa using this
  exact this ls [] _ (Canon.init n ws)
theorem list_ext_get {a b : List Int} (hl : a.length = b.length) (h : ∀ i, i < a.length → a[i]?.getD 0 = b[i]?.getD 0) : a = b := by
  refine List.ext_getElem hl fun i h1 h2 => ?_
  have := h i h1
  rwa [List.getElem?_eq_getElem h1, List.getElem?_eq_getElem h2] at this
theorem Canon.same {n : Nat} {ws : List Bool} {ls ms : List (Int × Int)} {g h : List Int} (hg : Canon n ws ls g) (hh : Canon n ws ms h)
    (h1 : ∀ f : Nat → Int, (∀ p ∈ ls, joinsB n ws p.1 = true → joinsB n ws p.2 = true → f p.1.toNat = f p.2.toNat) ↔ (∀ p ∈ ms, joinsB n ws p.1 = true → joinsB n ws p.2 = true → f p.1.toNat = f p.2.toNat)) : g = h := by
  refine list_ext_get (by rw [hg.len, hh.len]) fun i hi => ?_
  rw [hg.len] at hi
  have a := hg.conn (fun j => h[j]?.getD 0) ((h1 (fun j => h[j]?.getD 0)).2 hh.const) i hi
  have b := hh.conn (fun j => g[j]?.getD 0) ((h1 (fun j => g[j]?.getD 0)).1 hg.const) i hi
  have g0 := hg.lo i hi
  have g1 := hg.hi i hi
  have k0 := hh.lo i hi
  have k1 := hh.hi i hi
  have a1 := hh.hi (g[i]?.getD 0).toNat (by omega)
  have b1 := hg.hi (h[i]?.getD 0).toNat (by omega)
  omega
theorem Canon.idem {n : Nat} {ws : List Bool} {ls : List (Int × Int)} {g : List Int} (hg : Canon n ws ls g) {i : Nat} (hi : i < n) : g[(g[i]?.getD 0).toNat]?.getD 0 = g[i]?.getD 0 :=
  hg.conn (fun j => g[j]?.getD 0) hg.const i hi
/-- A wall stays by itself. -/
theorem Canon.wall {n : Nat} {ws : List Bool} {ls : List (Int × Int)} {g : List Int} (hg : Canon n ws ls g) {i : Nat} (hi : i < n) (hw : i < ws.length) (hwi : ws[i]?.getD false = true) : g[i]?.getD 0 = i ∧ memTo g i n = [(i : Int)] := by
  have hno : ∀ p ∈ ls, joinsB n ws p.1 = true → joinsB n ws p.2 = true → (fun j : Nat => if j = i then (1 : Int) else 0) p.1.toNat = (fun j : Nat => if j = i then (1 : Int) else 0) p.2.toNat := by
    intro p _ h1 h2
    have k : ∀ c : Int, joinsB n ws c = true → c.toNat ≠ i := by
      intro c hc e
      have r := joinsB_range hc
      simp only [joinsB, Bool.and_eq_true, Bool.or_eq_true, decide_eq_true_eq, e, hwi, Bool.not_true, Bool.false_eq_true, or_false] at hc
      omega
    simp only
    rw [if_neg (k _ h1), if_neg (k _ h2)]
  have hown : ∀ j, j < n → g[j]?.getD 0 = (i : Int) → j = i := by
    intro j hj e
    have := hg.conn (fun j => if j = i then 1 else 0) hno j hj
    rw [e] at this
    simp only [Int.toNat_natCast, if_true] at this
    split at this
    · assumption
    · omega
  have hself : g[i]?.getD 0 = i := by
    have := hg.conn (fun j => if j = i then 1 else 0) hno i hi
    have h0 := hg.lo i hi
    simp only [if_true] at this
    split at this
    · omega
    · omega
  refine ⟨hself, ?_⟩
  have hm : ∀ k, k ≤ n → memTo g i k = if i < k then [(i : Int)] else [] := by
    intro k
    induction k with
    | zero => intro _; simp [memTo]
    | succ k ih =>
      intro hk
      unfold memTo
      rw [ih (by omega)]
      by_cases e : g[k]?.getD 0 = (i : Int)
      · obtain rfl := hown k (by omega) e
        rw [if_pos e]; simp
      · rw [if_neg e]
        have : k ≠ i := fun e2 => e (by rw [e2]; exact hself)
        split <;> split <;> first | rfl | omega
  rw [hm n (Nat.le_refl _), if_pos hi]

/-- The links turned about, and twice, from the end. -/
def twice (l : List (Int × Int)) : List (Int × Int) := l.flatMap fun p => [(p.2, p.1), p]
theorem twice_same (n : Nat) (ws : List Bool) (l : List (Int × Int)) : groupsN n ws (twice l.reverse) = groupsN n ws l := by
  refine (Canon.groups n ws _).same (Canon.groups n ws l) fun f => ⟨fun h p hp => ?_, fun h p hp => ?_⟩
  · exact h p (by unfold twice; rw [List.mem_flatMap]; exact ⟨p, by simpa using hp, by simp⟩)
  · unfold twice at hp
    rw [List.mem_flatMap] at hp
    obtain ⟨q, hq, hp⟩ := hp
    simp only [List.mem_reverse] at hq
    simp only [List.mem_cons, List.not_mem_nil, or_false] at hp
    rcases hp with rfl | rfl
    · exact fun h1 h2 => (h q hq h2 h1).symm
    · exact h p hq
end Go.Proofs.Ytafljpfephomoaa
