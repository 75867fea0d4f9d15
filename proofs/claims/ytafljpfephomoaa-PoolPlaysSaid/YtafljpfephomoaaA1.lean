/- The walks of the island's smaller functions: each comes to what a plain function of lists says. -/
import Derived.Test.YtafljpfephomoaaRows
import Derived.Test.YtafljpfephomoaaBase
import Derived.WalkMore
namespace Go.Proofs.Ytafljpfephomoaa
open Go.RowKit
/-- forest -/
def Forest (xs : List Int) : Prop := ∀ i, i < xs.length → 0 ≤ xs.getD i 0 ∧ xs.getD i 0 ≤ i
def rootN (xs : List Int) : Nat → Nat → Nat
  | 0, i => i
  | k + 1, i => if xs.getD i 0 = i then i else rootN xs k (xs.getD i 0).toNat
def R (xs : List Int) (i : Nat) : Nat := rootN xs (i + 1) i
theorem Forest.lo {xs : List Int} (h : Forest xs) {i : Nat} (hi : i < xs.length) : 0 ≤ xs.getD i 0 := (h i hi).1
theorem Forest.hi {xs : List Int} (h : Forest xs) {i : Nat} (hi : i < xs.length) : xs.getD i 0 ≤ i := (h i hi).2
theorem rootN_fuel {xs : List Int} (hf : Forest xs) : ∀ (i m : Nat), i < m → i < xs.length → rootN xs m i = R xs i := by
  intro i
  induction i using Nat.strongRecOn with
  | _ i ih =>
    intro m hm hi
    obtain ⟨m, rfl⟩ : ∃ q, m = q + 1 := ⟨m - 1, by omega⟩
    unfold R
    simp only [rootN]
    split
    · rfl
    · have h1 := hf.lo hi
      have h2 := hf.hi hi
      have h3 : (xs.getD i 0).toNat < i := by omega
      rw [ih _ h3 m (by omega) (by omega), ih _ h3 i h3 (by omega)]
theorem R_eq {xs : List Int} (hf : Forest xs) {i : Nat} (hi : i < xs.length) : R xs i = if xs.getD i 0 = i then i else R xs (xs.getD i 0).toNat := by
  have h1 := hf.lo hi
  have h2 := hf.hi hi
  show rootN xs (i + 1) i = _
  simp only [rootN]
  split
  · rfl
  · exact rootN_fuel hf _ _ (by omega) (by omega)
theorem getD_set (xs : List Int) (i j : Nat) (v : Int) (hi : i < xs.length) : (xs.set i v).getD j 0 = if i = j then v else xs.getD j 0 := by
  simp only [List.getD, List.getElem?_set]
  split <;> simp_all
theorem Forest.halve {xs : List Int} (hf : Forest xs) {i : Nat} (hi : i < xs.length) : Forest (xs.set i (xs.getD (xs.getD i 0).toNat 0)) := by
  intro j hj
  simp at hj
  rw [getD_set _ _ _ _ hi]
  have h1 := hf.lo hi
  have h2 := hf.hi hi
  have h3 : (xs.getD i 0).toNat < xs.length := by omega
  have h4 := hf.lo h3
  have h5 := hf.hi h3
  split
  · omega
  · exact hf j hj
theorem R_halve {xs : List Int} (hf : Forest xs) {i : Nat} (hi : i < xs.length) : ∀ j, j < xs.length → R (xs.set i (xs.getD (xs.getD i 0).toNat 0)) j = R xs j := by
  intro j
  have hh := hf.halve hi
  induction j using Nat.strongRecOn with
  | _ j ih =>
    intro hj
    have hj' : j < (xs.set i (xs.getD (xs.getD i 0).toNat 0)).length := by simpa using hj
    rw [R_eq hh hj', R_eq hf hj, getD_set _ _ _ _ hi]
    have h1 := hf.lo hi
    have h2 := hf.hi hi
    have h3 : (xs.getD i 0).toNat < xs.length := by omega
    have h4 := hf.lo h3
    have h5 := hf.hi h3
    have h6 := hf.lo hj
    have h7 := hf.hi hj
    by_cases e : i = j
    · subst e
      rw [if_pos rfl]
      by_cases e2 : xs.getD i 0 = i
      · rw [if_pos (by rw [e2]; simpa using e2), if_pos e2]
      · rw [if_neg e2]
        rw [R_eq hf h3]
        by_cases e3 : xs.getD (xs.getD i 0).toNat 0 = ((xs.getD i 0).toNat : Int)
        · rw [if_pos e3, if_neg (by omega)]
          rw [ih _ (by omega) (by omega), show (xs.getD (xs.getD i 0).toNat 0).toNat = (xs.getD i 0).toNat from by omega]
          rw [R_eq hf h3, if_pos e3]
        · rw [if_neg e3, if_neg (by omega)]
          rw [ih _ (by omega) (by omega)]
    · rw [if_neg e]
      by_cases e2 : xs.getD j 0 = j
      · rw [if_pos e2, if_pos e2]
      · rw [if_neg e2, if_neg e2, ih _ (by omega) (by omega)]

theorem root_any (b n k : Nat) (xs : List Int) (w : World) (hn : xs.length = n) (hk : k < n) (hf : Forest xs) (hb : Blk w b 3 (ints xs)) :
    Calls Try.prog 39 #[.slice (some ⟨b, 0, none⟩) n n, .int .i64 k] w fun e w' => ∃ xs' : List Int, e = .returned (.int .i64 (R xs k)) ∧ xs'.length = n ∧ Forest xs' ∧ Blk w' b 3 (ints xs') ∧ Mod (· = b) w w' ∧ (∀ j, j < n → R xs' j = R xs j) := by
  have Hn := Lib.hid hn; clear hn
  go_enter Try.func39, Try.ntmps39
  go_wp2
  go_step3
  go_wp2
  go_step3
  go_wp2
  go_loopw [1, 5] (fun i _ wr => ∃ (k' : Nat) (xs' : List Int), i = .int .i64 k' ∧ k' ≤ k ∧ R xs' k' = R xs k ∧ xs'.length = n ∧ Forest xs' ∧ Blk wr b 3 (ints xs') ∧ Mod (· = b) w wr ∧ (∀ j, j < n → R xs' j = R xs j)) (fun i _ _ => (intOf i).toNat)
  case atStart => exact ⟨k, xs, rfl, Nat.le_refl _, rfl, Hn.out, hf, hb, Mod.refl _ _, fun _ _ => rfl⟩
  case round =>
    obtain ⟨k', xs', rfl, hk', hr, hl, hf', hb', hbut, hsame⟩ := hrel
    have h1 := hf'.lo (i := k') (by omega)
    have h2 := hf'.hi (i := k') (by omega)
    have hR := Lib.hid (R_eq hf' (i := k') (by omega))
    have hc : wr.cell? ⟨b, k', none⟩ = some (.int .i64 (xs'.getD k' 0)) := by
      rw [hb'.cell]; simp [ints, List.getD]; rw [List.getElem?_eq_getElem (by omega)]; simp
    obtain ⟨p, hp⟩ : ∃ p : Nat, (p : Int) = xs'.getD k' 0 := ⟨(xs'.getD k' 0).toNat, by omega⟩
    rw [← hp] at hc h1 h2 hR
    have hc2 : wr.cell? ⟨b, p, none⟩ = some (.int .i64 (xs'.getD p 0)) := by
      rw [hb'.cell]; simp [ints, List.getD]; rw [List.getElem?_eq_getElem (by omega)]; simp
    have hfr := hb'.frozen k'
    have hb2 := hb'.set k' (.int .i64 (xs'.getD p 0))
    have hbut2 := hbut.setCell (p := ⟨b, k', none⟩) (fun _ => rfl) (.int .i64 (xs'.getD p 0))
    have hf2 := hf'.halve (i := k') (by omega)
    have hR2 := R_halve hf' (i := k') (by omega)
    rw [← hp] at hf2 hR2
    have hl' := Lib.hid hl; clear hl
    have hr' := Lib.hid hr; clear hr
    have hs' := Lib.hid hsame; clear hsame
    have hp' := Lib.hid hp; clear hp
    have hR2' := Lib.hid hR2; clear hR2
    go_wp2
    · have he : (p : Int) = k' := by simpa using ‹((p : Int) == (k' : Int)) = true›
      rw [Exit.noGoto_ret]
      go_ret
      refine ⟨xs', ?_, hl'.out, hf', hb', hbut, hs'.out⟩
      rw [← hr'.out, hR.out, if_pos he]; rfl
    · have he : ¬ (p : Int) = k' := by simpa using ‹((p : Int) == (k' : Int)) = false›
      go_roundw
      case rel =>
        refine ⟨p, xs'.set k' (xs'.getD (p : Int).toNat 0), rfl, by omega, ?_, by simpa using hl'.out, hf2, ?_, hbut2, fun j hj => (hR2'.out j (by have := hl'.out; omega)).trans (hs'.out j hj)⟩
        · rw [hR2'.out p (by have := hl'.out; omega), ← hr'.out, hR.out, if_neg he]; simp
        · have : ints (xs'.set k' (xs'.getD (p : Int).toNat 0)) = (ints xs').set k' (.int .i64 (xs'.getD p 0)) := by simp [ints, List.map_set]
          rw [this]; exact hb2
      case measure => simp [intOf]; omega

def pickN (c n : Int) : Int := (if c < 0 then -(c+1) else c).tmod n
def joinsB (n : Int) (ws : List Bool) (i : Int) : Bool := decide (0 ≤ i) && decide (i < n) && (decide ((ws.length : Int) ≤ i) || !ws[i.toNat]?.getD false)

theorem pick_any (c n : Int) (w : World) (hc : -9223372036854775808 ≤ c) (hc2 : c ≤ 9223372036854775807) (hn : 1 ≤ n) (hn2 : n ≤ 65536) :
    Calls Try.prog 12 #[.int .i64 c, .int .i64 n] w fun e w' => e = .returned (.int .i64 (pickN c n)) ∧ w = w' := by
  by_cases h : c < 0
  · go_enter Try.func12, Try.ntmps12
    go_wp2
    go_ret
    exact ⟨ret_int (by simp [pickN, h]), rfl⟩
  · go_enter Try.func12, Try.ntmps12
    go_wp2
    go_ret
    exact ⟨ret_int (by have : ¬ c < 0 := by omega
                       simp [pickN, this, Int.tmod_eq_emod_of_nonneg h]), rfl⟩

theorem joins_any (i n : Int) (bn bw : Nat) (wv : Value) (ws : List Bool) (w : World) (hn : Blk w bn 3 [.int .i64 n]) (hw : Blk w bw 35 [wv]) (hr : Rd w wv ws.length 1 (bools ws)) :
    Calls Try.prog 38 #[.int .i64 i, .pointer (some ⟨bn, 0, none⟩), .pointer (some ⟨bw, 0, none⟩)] w fun e w' => e = .returned (.bool (joinsB n ws i)) ∧ w = w' := by
  have c1 := hn.cell 0
  have c2 := hw.cell 0
  simp only [List.getElem?_cons_zero] at c1 c2
  by_cases h1 : 0 ≤ i
  · by_cases h2 : i < n
    · obtain ⟨ao, cap, rfl, hl, hcap, hml, hx⟩ := hr
      unfold maxLen at hml
      have hl := Lib.hid hl
      by_cases h3 : (ws.length : Int) ≤ i
      · go_enter Try.func38, Try.ntmps38
        go_wp2
        go_ret
        exact ⟨ret_bool (by simp [joinsB, h1, h2, h3]), rfl⟩
      · obtain ⟨b, off, rfl, hb, hc⟩ := hx (by omega)
        obtain ⟨k, rfl⟩ := Int.eq_ofNat_of_zero_le h1
        have hc' := hc k (by omega)
        rw [bools_get (by omega)] at hc'
        clear hc
        go_enter Try.func38, Try.ntmps38
        go_wp2
        go_ret
        have h3' : ¬ ws.length ≤ k := by omega
        exact ⟨ret_bool (by simp [joinsB, h2, h3']), rfl⟩
    · go_enter Try.func38, Try.ntmps38
      go_wp2
      go_ret
      have h2' : ¬ i < n := by omega
      exact ⟨ret_bool (by simp [joinsB, h2']), rfl⟩
  · go_enter Try.func38, Try.ntmps38
    go_wp2
    go_ret
    have h1' : ¬ 0 ≤ i := by omega
    exact ⟨ret_bool (by simp [joinsB, h1']), rfl⟩

theorem clip_any (ao : Option Addr) (n cap : Nat) (w : World) (h : n ≤ cap) (_hm : cap ≤ maxLen) :
    Calls Try.prog 45 #[.slice ao n cap] w fun e w' => e = .returned (.slice ao n n) ∧ w = w' := by
  go_enter Try.func45, Try.ntmps45
  go_wp2
  go_ret
  exact ⟨rfl, rfl⟩

end Go.Proofs.Ytafljpfephomoaa
