/- The island's reference: groups by lowering. The plain law and the walk. -/
import Derived.Test.YtafljpfephomoaaT1
import Derived.Test.YtafljpfephomoaaOw
import Derived.RegionTactic
namespace Go.Proofs.Ytafljpfephomoaa
open Go.RowKit
/-- What holds all the while: a thing's number is at most itself, and of its own kind. -/
structure Low (n : Nat) (ws : List Bool) (ls : List (Int × Int)) (g : List Int) : Prop where
  len : g.length = n
  lo : ∀ i, i < n → 0 ≤ g[i]?.getD 0
  hi : ∀ i, i < n → g[i]?.getD 0 ≤ i
  conn : ∀ h : Nat → Int, (∀ p ∈ ls, joinsB n ws p.1 = true → joinsB n ws p.2 = true → h p.1.toNat = h p.2.toNat) → ∀ i, i < n → h (g[i]?.getD 0).toNat = h i
theorem Low.init (n : Nat) (ws : List Bool) (ls : List (Int × Int)) : Low n ws ls (upTo n) :=
  ⟨by simp [upTo], fun i hi => by rw [upTo_get hi]; omega, fun i hi => by rw [upTo_get hi]; omega, fun h _ i hi => by rw [upTo_get hi]; simp⟩
theorem Low.done {n : Nat} {ws : List Bool} {ls : List (Int × Int)} {g : List Int} (h : Low n ws ls g) (hc : ∀ p ∈ ls, joinsB n ws p.1 = true → joinsB n ws p.2 = true → g[p.1.toNat]?.getD 0 = g[p.2.toNat]?.getD 0) : g = groupsN n ws ls :=
  (Canon.mk h.len h.lo h.hi hc h.conn).same (Canon.groups n ws ls) fun _ => Iff.rfl
def lowered (g : List Int) (a b : Nat) : List Int := (g.set a (min (g[a]?.getD 0) (g[b]?.getD 0))).set b (min (g[a]?.getD 0) (g[b]?.getD 0))
theorem lowered_get (g : List Int) (a b i : Nat) (hi : i < g.length) : (lowered g a b)[i]?.getD 0 = if i = a ∨ i = b then min (g[a]?.getD 0) (g[b]?.getD 0) else g[i]?.getD 0 := by
  unfold lowered
  rw [List.getElem?_set, List.getElem?_set]
  simp only [List.length_set]
  by_cases h1 : b = i
  · subst h1; simp [hi]
  · by_cases h2 : a = i
    · subst h2; simp [h1, hi]
    · rw [if_neg h1, if_neg h2, if_neg (by rintro (h | h); exact h2 h.symm; exact h1 h.symm)]
theorem Low.step {n : Nat} {ws : List Bool} {ls : List (Int × Int)} {g : List Int} (h : Low n ws ls g) {a b : Nat} (ha : a < n) (hb : b < n) (hp : ((a : Int), (b : Int)) ∈ ls) (h1 : joinsB n ws a = true) (h2 : joinsB n ws b = true) : Low n ws ls (lowered g a b) := by
  have la := h.lo a ha
  have lb := h.lo b hb
  have ua := h.hi a ha
  have ub := h.hi b hb
  refine ⟨by simp [lowered, h.len], fun i hi => ?_, fun i hi => ?_, fun f hf i hi => ?_⟩
  · rw [lowered_get _ _ _ _ (by rw [h.len]; exact hi)]
    have := h.lo i hi
    split <;> omega
  · rw [lowered_get _ _ _ _ (by rw [h.len]; exact hi)]
    have := h.hi i hi
    split
    · rename_i e; rcases e with rfl | rfl <;> omega
    · exact this
  · rw [lowered_get _ _ _ _ (by rw [h.len]; exact hi)]
    have hab : f a = f b := by have := hf _ hp h1 h2; simpa using this
    have ca := h.conn f hf a ha
    have cb := h.conn f hf b hb
    split
    · rename_i e
      rcases Int.le_total (g[a]?.getD 0) (g[b]?.getD 0) with e2 | e2
      · rw [Int.min_eq_left e2, ca]; rcases e with rfl | rfl
        · rfl
        · exact hab
      · rw [Int.min_eq_right e2, cb]; rcases e with rfl | rfl
        · exact hab.symm
        · rfl
    · exact h.conn f hf i hi
def sumN (g : List Int) : Nat := (g.map Int.toNat).sum
theorem sumN_set (g : List Int) : ∀ (i : Nat) (v u : Int), g[i]? = some v → sumN (g.set i u) + v.toNat = sumN g + u.toNat := by
  induction g with
  | nil => intro i v u h; simp at h
  | cons x g ih =>
    intro i v u h
    cases i with
    | zero => simp at h; subst h; simp [sumN]; omega
    | succ i =>
      simp only [List.getElem?_cons_succ] at h
      have := ih i v u h
      simp only [sumN, List.set_cons_succ, List.map_cons, List.sum_cons] at this ⊢
      omega
theorem Low.sum {n : Nat} {ws : List Bool} {ls : List (Int × Int)} {g : List Int} (h : Low n ws ls g) {a b : Nat} (ha : a < n) (hb : b < n) (hne : ¬ g[a]?.getD 0 = g[b]?.getD 0) : sumN (lowered g a b) + 1 ≤ sumN g := by
  have la := h.lo a ha
  have lb := h.lo b hb
  have ea : g[a]? = some (g[a]?.getD 0) := by rw [List.getElem?_eq_getElem (by rw [h.len]; exact ha)]; rfl
  have eb : g[b]? = some (g[b]?.getD 0) := by rw [List.getElem?_eq_getElem (by rw [h.len]; exact hb)]; rfl
  have hab : a ≠ b := by rintro rfl; exact hne rfl
  have s1 := sumN_set g a _ (min (g[a]?.getD 0) (g[b]?.getD 0)) ea
  have s2 := sumN_set (g.set a (min (g[a]?.getD 0) (g[b]?.getD 0))) b _ (min (g[a]?.getD 0) (g[b]?.getD 0)) (by rw [List.getElem?_set_ne hab]; exact eb)
  unfold lowered
  omega
theorem joins_wall {n a : Nat} {ws : List Bool} (h : a < n) : joinsB n ws a = !wallB ws a := by
  unfold joinsB wallB
  have e1 : decide ((0 : Int) ≤ (a : Int)) = true := by simp
  have e2 : decide ((a : Int) < (n : Int)) = true := by simp; exact h
  rw [e1, e2]
  by_cases e : (a : Int) < (ws.length : Int)
  · simp [e, show ¬ (ws.length : Int) ≤ a by omega]
  · simp [e, show (ws.length : Int) ≤ a by omega]
theorem joins_out {n a : Int} {ws : List Bool} (h : a < 0 ∨ n ≤ a) : joinsB n ws a = false := by
  unfold joinsB
  rcases h with h | h
  · simp [show ¬ 0 ≤ a by omega]
  · simp [show ¬ a < n by omega]
/-- So far no link joins two that are apart. -/
def Even (n : Nat) (ws : List Bool) (ls : List (Int × Int)) (g : List Int) (k : Nat) : Prop := ∀ p ∈ ls.take k, joinsB n ws p.1 = true → joinsB n ws p.2 = true → g[p.1.toNat]?.getD 0 = g[p.2.toNat]?.getD 0
theorem Even.zero (n : Nat) (ws : List Bool) (ls : List (Int × Int)) (g : List Int) : Even n ws ls g 0 := fun p hp => by simp at hp
theorem Even.next {n : Nat} {ws : List Bool} {ls : List (Int × Int)} {g : List Int} {k : Nat} (h : Even n ws ls g k) (hk : k < ls.length)
    (hs : joinsB n ws (ls[k]?.getD (0, 0)).1 = true → joinsB n ws (ls[k]?.getD (0, 0)).2 = true → g[(ls[k]?.getD (0, 0)).1.toNat]?.getD 0 = g[(ls[k]?.getD (0, 0)).2.toNat]?.getD 0) : Even n ws ls g (k + 1) := by
  intro p hp
  rw [List.take_succ_eq_append_getElem hk] at hp
  rcases List.mem_append.1 hp with hp | hp
  · exact h p hp
  · simp at hp
    rw [List.getElem?_eq_getElem hk, Option.getD_some, ← hp] at hs
    exact hs
theorem upTo_snoc (k : Nat) : upTo (k + 1) = upTo k ++ [(k : Int)] := by simp [upTo, List.range_succ]
theorem own_get_set {w : World} {base ob n oc a c : Nat} {xs : List Int} (h : w.ownsRow base 3 1 (.slice (some ⟨ob, 0, none⟩) n oc) n (ints xs)) (hl : xs.length = n) (ha : a < n) (hc : c < n) (hne : a ≠ c) (v : Value) :
    (w.setCell ⟨ob, a, none⟩ v).cell? ⟨ob, c, none⟩ = some (.int .i64 (xs[c]?.getD 0)) := by
  have := (Rd.of_own (own_set h ha v)).at (i := c) (by omega)
  rw [Nat.zero_add, List.getElem?_set_ne hne, ints_get (by omega)] at this
  exact this
theorem own_lowered {w : World} {base ob n oc a c : Nat} {g : List Int} (h : w.ownsRow base 3 1 (.slice (some ⟨ob, 0, none⟩) n oc) n (ints g)) (ha : a < n) (hc : c < n) {x : Int} (hx : x = min (g[a]?.getD 0) (g[c]?.getD 0)) :
    ((w.setCell ⟨ob, a, none⟩ (.int .i64 x)).setCell ⟨ob, c, none⟩ (.int .i64 x)).ownsRow base 3 1 (.slice (some ⟨ob, 0, none⟩) n oc) n (ints (lowered g a c)) := by
  have := own_set (own_set h ha (.int .i64 x)) hc (.int .i64 x)
  rw [ints_set, ints_set] at this
  unfold lowered
  rw [← hx]
  exact this
set_option maxRecDepth 100000 in
set_option maxHeartbeats 4000000 in
theorem refgroups_any (n : Int) (lv wv : Value) (ls : List (Int × Int)) (ws : List Bool) (nl nw : Nat) (h1 : ls.length = nl) (h2 : ws.length = nw) (N : Nat) (hN : (N : Int) = min (max n 0) 4096) (w : World) (hl : Rd w lv nl 2 (pairCells ls)) (hw : Rd w wv nw 1 (bools ws)) :
    Calls Try.prog 21 #[.int .i64 n, lv, wv] w fun e w' => ∃ v, e = .returned v ∧ w'.ownsRow w.heap.size 3 1 v N (ints (groupsN N ws ls)) ∧ Below w.heap.size w w' := by
  obtain ⟨la, lc, rfl, l1, l2⟩ := hl.shape
  obtain ⟨i3, hi3, hz3a, hz3b, hz3c⟩ := info_parts info3
  have H1 := Lib.hid h1; clear h1
  have H2 := Lib.hid h2; clear h2
  have HN := Lib.hid hN
  have hNb : N ≤ 4096 := by omega
  clear hN
  go_enter Try.func21, Try.ntmps21
  go_wp2_with fail
  refine (bound_any n w).mono ?_
  rintro e w' ⟨rfl, rfl⟩
  rw [← HN.out]
  go_wp2_with fail
  go_loopw [7, 8] (fun v i wr => ∃ k : Nat, k ≤ N ∧ i = .int .i64 k ∧ wr.ownsRow w.heap.size 3 1 v k (ints (upTo k)) ∧ Below w.heap.size w wr) (fun _ i _ => N - (intOf i).toNat)
  case atStart => exact ⟨0, Nat.zero_le _, rfl, World.ownsRow_nil _ _ _ _, Below.refl _ _⟩
  case round =>
    obtain ⟨k, hk, rfl, hown, hbel⟩ := hrel
    by_cases hlt : k < N
    · have hsz := hbel.size
      go_wp2_with (at_builtin; refine wpList_append_own _ rfl _ _ 26 rfl w.heap.size 3 i3 (.int .i64 0) 1 8 Try.underlying26 hi3 hz3a hz3b hz3c rfl (by decide) _ _ _ rfl (hown.alloc _) ⟨wr.heap.size, 0, none⟩ 1 1 [.int .i64 k] rfl rfl (cell_one_new _ _ _) (by simp [Value.oneCell']) (by unfold maxLen; omega) (by omega) (by simp; omega) ?_; intro v' w1 hown' hgrow _)
      have hb1 : Below w.heap.size w w1 := (hbel.alloc hsz _).grown hgrow (by simp; omega) (fun r hr => ownBlock_ge hown hr)
      go_roundw
      case rel => exact ⟨k + 1, by omega, by go_num, by rw [upTo_snoc]; simpa [ints] using hown', hb1⟩
      case measure => simp [intOf]; omega
    · obtain rfl : k = N := by omega
      obtain ⟨oa, oc, rfl, o1, o2⟩ := (Rd.of_own hown).shape
      go_wp2_with fail
      go_loopg [9] (2 * sumN (upTo k) + 1) (fun s c wx => ∃ (g : List Int) (b : Bool), c = .bool b ∧ Low k ws ls g ∧ (b = false → Even k ws ls g nl) ∧ 2 * sumN g + (cond b 1 0) ≤ s ∧ wx.ownsRow w.heap.size 3 1 (.slice oa k oc) k (ints g) ∧ Below w.heap.size w wx)
      case atStart => exact ⟨upTo k, true, rfl, Low.init _ _ _, fun h => (by cases h), Nat.le_refl _, hown, hbel⟩
      case round =>
        clear hown hbel
        obtain ⟨g, b, rfl, hL, hE, hs, hown, hbel⟩ := hrel
        cases b with
        | false =>
          have hg := hL.done (by have := hE rfl; unfold Even at this; rwa [← H1.out, List.take_length] at this)
          have Hg := Lib.hid hg
          clear hg hE
          go_wp2
          go_ret
          exact ⟨_, rfl, by rw [← Hg.out]; exact hown, hbel⟩
        | true =>
          clear hE
          simp only [cond_true] at hs
          go_wp2_with fail
          go_loopw [9, 10] (fun c i wx => ∃ (j : Nat) (g : List Int) (b : Bool), j ≤ nl ∧ i = .int .i64 j ∧ c = .bool b ∧ Low k ws ls g ∧ (b = false → Even k ws ls g j) ∧ 2 * sumN g + (cond b 2 0) + 1 ≤ gk ∧ wx.ownsRow w.heap.size 3 1 (.slice oa k oc) k (ints g) ∧ Below w.heap.size w wx) (fun _ i _ => nl - (intOf i).toNat)
          case atStart => exact ⟨0, g, false, Nat.zero_le _, rfl, rfl, hL, fun _ => Even.zero _ _ _ _, by simpa using hs, hown, hbel⟩
          case round =>
            clear hown hbel hL hs
            obtain ⟨j, g, b, hj, rfl, rfl, hL, hE, hs, hown, hbel⟩ := hrel
            by_cases hjl : j < nl
            · have hkl : j < ls.length := by rw [H1.out]; exact hjl
              obtain ⟨lb, lo, rfl⟩ := hl.addr (by omega)
              have hsz := hbel.size
              have hlr := hl.new hbel
              have hwr := hw.new hbel
              have g0 := hlr.at (i := j * 2) (by omega)
              have g1 := hlr.at (i := j * 2 + 1) (by omega)
              rw [pair0 hkl] at g0
              rw [pair1 hkl, ← Nat.add_assoc] at g1
              have hnext := fun (hE : Even k ws ls g j) hs => hE.next hkl hs
              obtain ⟨⟨p, q⟩, hpq⟩ : ∃ pq, ls[j]?.getD (0, 0) = pq := ⟨_, rfl⟩
              rw [hpq] at g0 g1 hnext
              simp only at g0 g1 hnext
              have hmem : (p, q) ∈ ls := by rw [← hpq, List.getElem?_eq_getElem hkl]; exact List.getElem_mem hkl
              have Hmem := Lib.hid hmem
              have Hnext := Lib.hid hnext
              have HE := Lib.hid hE
              clear hnext hmem hpq hE
              have hjn : (j : Int) < (nl : Int) := by omega
              by_cases hin : (0 ≤ p ∧ p < k) ∧ (0 ≤ q ∧ q < k)
              · obtain ⟨⟨p0, p1⟩, q0, q1⟩ := hin
                obtain ⟨a, rfl⟩ := Int.eq_ofNat_of_zero_le p0
                obtain ⟨c, rfl⟩ := Int.eq_ofNat_of_zero_le q0
                have ha : a < k := by omega
                have hc : c < k := by omega
                obtain ⟨ob, oo, e0⟩ := own_shape hown (by omega)
                simp only [Value.slice.injEq, true_and] at e0
                obtain ⟨rfl, rfl⟩ := e0
                have ca := (Rd.of_own hown).int hL.len ha
                have cc := (Rd.of_own hown).int hL.len hc
                rw [Nat.zero_add] at ca cc
                have fa := own_frozen hown a
                have fc := own_frozen hown c
                have hja := joins_wall (ws := ws) ha
                have hjc := joins_wall (ws := ws) hc
                have Hja := Lib.hid hja
                have Hjc := Lib.hid hjc
                clear hja hjc
                have hla := hL.lo a ha
                have hlc := hL.lo c hc
                have hua := hL.hi a ha
                have huc := hL.hi c hc
                go_wp2_with fail
                refine (wall_any _ nw ws H2.out a _ hwr (by omega)).mono ?_
                rintro e wx' ⟨rfl, rfl⟩
                go_wp2_with fail
                refine (wall_any _ nw ws H2.out c _ hwr (by omega)).mono ?_
                rintro e wx' ⟨rfl, rfl⟩
                have hno : ∀ x : Bool, ((!x) = true → False) ∨ x = false := fun x => by cases x <;> simp
                cases hA : wallB ws a with
                | true =>
                  go_wp2
                  go_quiet (fail)
                  go_wp2
                  go_roundw
                  case rel => exact ⟨j + 1, g, b, by omega, by go_num, rfl, hL, fun hb => Hnext.out (HE.out hb) (fun a1 a2 => by rw [Hja.out, hA] at a1; cases a1), hs, own_new hown (Below.drewN' (Below.refl _ _) _), Below.drewN' hbel _⟩
                  case measure => simp [intOf]; omega
                | false =>
                  cases hC : wallB ws c with
                  | true =>
                    go_wp2
                    go_quiet (fail)
                    go_wp2
                    go_roundw
                    case rel => exact ⟨j + 1, g, b, by omega, by go_num, rfl, hL, fun hb => Hnext.out (HE.out hb) (fun a1 a2 => by rw [Hjc.out, hC] at a2; cases a2), hs, own_new hown (Below.drewN' (Below.refl _ _) _), Below.drewN' hbel _⟩
                    case measure => simp [intOf]; omega
                  | false =>
                    by_cases hgg : g[a]?.getD 0 = g[c]?.getD 0
                    · have hgg2 : (g[a]?.getD 0 == g[c]?.getD 0) = true := by simpa using hgg
                      have Hgg := Lib.hid hgg
                      clear hgg
                      go_wp2
                      go_quiet (fail)
                      go_wp2
                      go_roundw
                      case rel => exact ⟨j + 1, g, b, by omega, by go_num, rfl, hL, fun hb => Hnext.out (HE.out hb) (fun a1 a2 => by simpa using Hgg.out), hs, own_new hown (Below.drewN' (Below.refl _ _) _), Below.drewN' hbel _⟩
                      case measure => simp [intOf]; omega
                    · have hgg2 : (g[a]?.getD 0 == g[c]?.getD 0) = false := by simpa using hgg
                      have Hgg := Lib.hid hgg
                      clear hgg
                      have hne : a ≠ c := by rintro rfl; exact Hgg.out rfl
                      have hcell : ∀ nq v, ((wr.drewN nq).setCell ⟨ob, a, none⟩ v).cell? ⟨ob, c, none⟩ = some (.int .i64 (g[c]?.getD 0)) := fun nq v => own_get_set (own_new hown (Below.drewN' (Below.refl _ _) nq)) hL.len ha hc hne v
                      have hstep := hL.step ha hc Hmem.out (by rw [Hja.out, hA]; rfl) (by rw [Hjc.out, hC]; rfl)
                      have hsum := hL.sum ha hc Hgg.out
                      have hob := ownBlock_ge hown (r := ob) rfl
                      rcases (show g[a]?.getD 0 ≤ g[c]?.getD 0 ∨ g[c]?.getD 0 < g[a]?.getD 0 by omega) with hle | hle
                      · have hmin := Lib.hid (Int.min_eq_left hle)
                        go_wp2
                        go_quiet (fail)
                        go_wp2
                        go_quiet (fail)
                        go_wp2
                        go_roundw
                        case rel => exact ⟨j + 1, lowered g a c, true, by omega, by go_num, rfl, hstep, fun h => (by cases h), by simp only [cond_true]; omega, own_lowered (own_new hown (Below.drewN' (Below.refl _ _) _)) ha hc hmin.out.symm, ((Below.drewN' hbel _).setCell (by simp only; omega) _).setCell (by simp only; omega) _⟩
                        case measure => simp [intOf]; omega
                      · have hmin := Lib.hid (Int.min_eq_right (Int.le_of_lt hle))
                        go_wp2
                        go_quiet (fail)
                        go_wp2
                        go_quiet (fail)
                        go_wp2
                        go_roundw
                        case rel => exact ⟨j + 1, lowered g a c, true, by omega, by go_num, rfl, hstep, fun h => (by cases h), by simp only [cond_true]; omega, own_lowered (own_new hown (Below.drewN' (Below.refl _ _) _)) ha hc hmin.out.symm, ((Below.drewN' hbel _).setCell (by simp only; omega) _).setCell (by simp only; omega) _⟩
                        case measure => simp [intOf]; omega
              · have hno : ¬ (joinsB k ws p = true ∧ joinsB k ws q = true) := by
                  rintro ⟨j1, j2⟩
                  exact hin ⟨joinsB_range j1, joinsB_range j2⟩
                have Hno := Lib.hid hno
                clear hno
                have hin4 : p < 0 ∨ (0 ≤ p ∧ (k : Int) ≤ p) ∨ (0 ≤ p ∧ p < k ∧ q < 0) ∨ (0 ≤ p ∧ p < k ∧ 0 ≤ q ∧ (k : Int) ≤ q) := by omega
                clear hin
                rcases hin4 with h4 | ⟨h4, h5⟩ | ⟨h4, h5, h6⟩ | ⟨h4, h5, h6, h7⟩
                all_goals
                  go_wp2
                  go_roundw
                  case rel => exact ⟨j + 1, g, b, by omega, by go_num, rfl, hL, fun hb => Hnext.out (HE.out hb) (fun a1 a2 => (Hno.out ⟨a1, a2⟩).elim), hs, hown, hbel⟩
                  case measure => simp [intOf]; omega
            · obtain rfl : j = nl := by omega
              cases b with
              | false =>
                go_wp2
                go_roundg (2 * sumN g)
                case measure => simp only [cond_false] at hs; omega
                case rel => exact ⟨g, false, rfl, hL, fun _ => hE trivial, Nat.le_refl _, hown, hbel⟩
              | true =>
                go_wp2
                go_roundg (2 * sumN g + 1)
                case measure => simp only [cond_true] at hs; omega
                case rel => exact ⟨g, true, rfl, hL, fun h => (by cases h), Nat.le_refl _, hown, hbel⟩
end Go.Proofs.Ytafljpfephomoaa
