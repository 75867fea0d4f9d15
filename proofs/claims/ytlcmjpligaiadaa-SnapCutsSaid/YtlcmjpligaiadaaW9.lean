/- Without: slices.IndexFunc, slices.DeleteFunc. -/
import Derived.Test.YtlcmjpligaiadaaW5
namespace Go.Proofs.Ytlcmjpligaiadaa
open Go.RowKit
def ofH (h : Int) (p : Pr) : Bool := p.1 == h || p.2 == h
theorem del_any (h : Int) (hb : Nat) (p1 p2 : Int) (w : World) (hbx : Blk w hb 40 [.int .i64 h]) :
    Calls Try.prog 64 #[.agg #[.int .i64 p1, .int .i64 p2], .pointer (some ⟨hb, 0, none⟩)] w fun e w' => e = .returned (.bool (ofH h (p1, p2))) ∧ Below w.heap.size w w' := by
  have hlt := hbx.lt
  obtain ⟨W0, hW0⟩ : ∃ W0, w.alloc (.cells #[.int .i64 p1, .int .i64 p2] 42) = W0 := ⟨_, rfl⟩
  have x0 : Blk W0 w.heap.size 42 [.int .i64 p1, .int .i64 p2] := by rw [← hW0]; exact Blk.new w 42 [_, _]
  have B0 : Below w.heap.size w W0 := by rw [← hW0]; exact (Below.refl _ w).alloc (Nat.le_refl _) _
  have ch := (hbx.below B0 hlt).cell 0
  have e0 := x0.cell 0
  have e1 := x0.cell 1
  simp only [List.getElem?_cons_zero, List.getElem?_cons_succ] at ch e0 e1
  rw [← hW0] at ch e0 e1
  have HW0 := Lib.hid hW0
  clear hW0
  by_cases h1 : p1 = h
  · have b1 : (p1 == h) = true := by simp [h1]
    have hfin := Lib.hid (show ofH h (p1, p2) = true by simp [ofH, h1])
    clear h1
    go_enter Try.func64, Try.ntmps64
    go_wp2
    go_ret
    exact ⟨ret_bool hfin.out.symm, by rw [HW0.out]; exact B0⟩
  · have b1 : (p1 == h) = false := by simpa using h1
    have hfin := Lib.hid (show ofH h (p1, p2) = (p2 == h) by simp [ofH, h1])
    clear h1
    go_enter Try.func64, Try.ntmps64
    go_wp2
    go_ret
    exact ⟨ret_bool hfin.out.symm, by rw [HW0.out]; exact B0⟩
def idxF (l : List Pr) (h : Int) : Int := match l.findIdx? (ofH h) with | some i => (i : Int) | none => -1
theorem idxF_of {l : List Pr} {h : Int} {k : Nat} {p : Pr} (hno : ∀ j q, j < k → l[j]? = some q → ofH h q = false) (hk : l[k]? = some p) (hp : ofH h p = true) : l.findIdx? (ofH h) = some k := by
  obtain ⟨hlt, rfl⟩ := List.getElem?_eq_some_iff.1 hk
  rw [List.findIdx?_eq_some_iff_getElem]
  refine ⟨hlt, hp, fun j hj => ?_⟩
  have := hno j _ hj (List.getElem?_eq_getElem (by omega))
  simp [this]
theorem idxF_none {l : List Pr} {h : Int} (hno : ∀ j q, j < l.length → l[j]? = some q → ofH h q = false) : l.findIdx? (ofH h) = none := by
  rw [List.findIdx?_eq_none_iff]
  intro x hx
  obtain ⟨j, hj⟩ := List.getElem?_of_mem hx
  exact hno j x (List.getElem?_eq_some_iff.1 hj).1 hj
set_option maxRecDepth 100000 in
set_option maxHeartbeats 4000000 in
theorem index_any (h : Int) (hb : Nat) (sv : Value) (n : Nat) (l : List Pr) (hl : l.length = n) (hn : n ≤ 4096) (w : World) (hbx : Blk w hb 40 [.int .i64 h]) (hrd : Rd w sv n 2 (pairCells l)) :
    Calls Try.prog 83 #[sv, .func (.func 64) #[] #[.pointer (some ⟨hb, 0, none⟩)]] w fun e w' => e = .returned (.int .i64 (idxF l h)) ∧ Below w.heap.size w w' := by
  obtain ⟨sa, sc, rfl, s1, s2⟩ := hrd.shape
  have hlt := hbx.lt
  have Hl := Lib.hid hl
  clear hl
  go_enter Try.func83, Try.ntmps83
  go_wp2
  go_loopw [5, 8] (fun _ i wr => ∃ k : Nat, k ≤ n ∧ i = .int .i64 k ∧ Hid (∀ j q, j < k → l[j]? = some q → ofH h q = false) ∧ Below w.heap.size w wr) (fun _ i _ => n - (intOf i).toNat)
  case atStart => exact ⟨0, Nat.zero_le _, rfl, Lib.hid (fun j q hj => by omega), Below.refl _ _⟩
  case round =>
    obtain ⟨k, hk, rfl, hno, hB⟩ := hrel
    by_cases hkn : k < n
    · obtain ⟨p, hp⟩ : ∃ p, l[k]? = some p := ⟨_, List.getElem?_eq_getElem (by rw [Hl.out]; exact hkn)⟩
      obtain ⟨gb, go, rfl⟩ := hrd.addr (by omega)
      obtain ⟨f0, f1⟩ := (hrd.new hB).pair Hl.out hkn hp
      obtain ⟨p1, p2⟩ := p
      simp only at f0 f1
      have hkI : (k : Int) < (n : Int) := by omega
      have hsz := hB.size
      have hbr := hbx.below hB hlt
      have hnext : ofH h (p1, p2) = false → ∀ j q, j < k + 1 → l[j]? = some q → ofH h q = false := by
        intro hf j q hj hq
        rcases Nat.lt_or_ge j k with h1 | h1
        · exact hno j q h1 hq
        · obtain rfl : j = k := by omega
          rw [hp] at hq
          obtain rfl := Option.some.inj hq
          exact hf
      have hyes : ofH h (p1, p2) = true → idxF l h = k := fun hf => by unfold idxF; rw [idxF_of hno hp hf]
      have Hnext := Lib.hid hnext
      have Hyes := Lib.hid hyes
      clear hp hnext hyes
      go_wp2_with fail
      refine (del_any h hb p1 p2 wr hbr).mono ?_
      rintro e w5 ⟨rfl, B5⟩
      have hB5 := hB.trans (B5.mono hsz)
      cases hof : ofH h (p1, p2) with
      | true =>
        have hfin := Lib.hid (Hyes.out hof)
        clear hof
        go_wp2
        go_ret
        exact ⟨ret_int hfin.out.symm, hB5⟩
      | false =>
        have hfin := Lib.hid (Hnext.out hof)
        clear hof
        go_wp2
        go_roundw
        case rel => exact ⟨k + 1, by omega, by go_num, Lib.hid hfin.out, hB5⟩
        case measure => simp [intOf]; omega
    · obtain rfl : k = n := by omega
      have hfin : idxF l h = -1 := by unfold idxF; rw [idxF_none (by rw [Hl.out]; exact hno)]
      have Hfin := Lib.hid hfin
      clear hfin
      go_wp2
      go_ret
      exact ⟨ret_int Hfin.out.symm, hB⟩
end Go.Proofs.Ytlcmjpligaiadaa
