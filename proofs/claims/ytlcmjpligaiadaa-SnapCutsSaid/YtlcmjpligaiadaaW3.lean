/- slices.Insert of one pair. -/
import Derived.Test.YtlcmjpligaiadaaW2
import Derived.Test.YtlcmjpligaiadaaCp
import Derived.Lib.Overlaps
import Derived.Deep.RegionLaw
import Derived.Deep.DeepCutAuto
import Derived.Deep.CutBlock
namespace Go.Proofs.Ytlcmjpligaiadaa
open Go.RowKit
theorem info42 : (Try.prog.info? 42).map (fun i => (i.zero, i.size, i.bytes)) = some (some (.agg #[.int .i64 0, .int .i64 0]), 2, 16) := by kernel_rfl
def insP (l : List Pr) (k : Nat) (p : Pr) : List Pr := l.take k ++ p :: l.drop k
def InsPost (base : Nat) (sv : Value) (l : List Pr) (k : Nat) (p : Pr) (w : World) (e : Ending) (w' : World) : Prop :=
  ∃ v', e = .returned v' ∧ w'.ownsRow base 42 2 v' (l.length + 1) (pairCells (insP l k p)) ∧ Mod (fun j => sv.ownBlock = some j) w w' ∧ (∀ r, v'.ownBlock = some r → sv.ownBlock = some r ∨ w.heap.size ≤ r)
theorem foot_of {w : World} {v v' : Value} (h : v'.ownBlock = v.ownBlock ∨ v'.ownBlock = some w.heap.size) : ∀ r, v'.ownBlock = some r → v.ownBlock = some r ∨ w.heap.size ≤ r := by
  intro r e
  rcases h with h | h
  · exact .inl (h ▸ e)
  · rw [h] at e; simp at e; exact .inr (by omega)
theorem add_off (b o j : Nat) : (⟨b, o, none⟩ : Addr).add j = ⟨b, o + j, none⟩ := by unfold Addr.add; split <;> simp_all
theorem blk_src {w : World} {b : Nat} {t : TypeId} {vs : List Value} (h : Blk w b t vs) : ∀ (j : Nat) (v : Value), vs[j]? = some v → w.cell? ((⟨b, 0, none⟩ : Addr).add j) = some v := fun j v hv => by
  rw [add_off, Nat.zero_add, h.cell, hv]
theorem mod_grown {w w' : World} {row : Option Nat} (h : w.grownBy w' row) : Mod (fun j => row = some j) w w' :=
  ⟨h.os, h.tape, h.output, h.size, fun k hk hs => h.block k hk (fun e => hs e.symm)⟩
set_option maxRecDepth 100000 in
set_option maxHeartbeats 4000000 in
theorem insert_end (base g : Nat) (sv : Value) (n : Nat) (l : List Pr) (p : Pr) (hl : l.length = n) (hn : n ≤ 4095) (w : World) (hb : base ≤ w.heap.size) (ho : w.ownsRow base 42 2 sv n (pairCells l)) (hp : Blk w g 42 [.int .i64 p.1, .int .i64 p.2]) :
    Calls Try.prog 61 #[sv, .int .i64 n, .slice (some ⟨g, 0, none⟩) 1 1] w (InsPost base sv l n p w) := by
  obtain ⟨i0, hi, hz0, hz1, hz2⟩ := info_parts info42
  obtain ⟨sa, sc, rfl, s1, s2⟩ := (Rd.of_own ho).shape
  have Hl := Lib.hid hl
  have hin : pairCells l ++ [.int .i64 p.1, .int .i64 p.2] = pairCells (insP l n p) := by
    rw [insP, ← hl, List.take_length, List.drop_length, pairs_append]; rfl
  have Hin := Lib.hid hin
  obtain ⟨p1, p2⟩ := p
  clear hl hin
  have n1 : (0 : Int) ≤ (n : Int) := by omega
  have n2 : (n : Int) ≤ (sc : Int) := by omega
  have hpr : Rd w (.slice (some ⟨g, 0, none⟩) 1 1) 1 2 [.int .i64 p1, .int .i64 p2] := blk_rd hp rfl (by decide)
  by_cases hcap : sc = n
  · subst hcap
    go_enter Try.func61, Try.ntmps61
    go_wp2_with (at_builtin; refine wpList_append_rd rfl _ _ 34 rfl base 42 i0 (.agg #[.int .i64 0, .int .i64 0]) 2 16 Try.underlying34 hi hz0 hz1 hz2 rfl (by decide) _ _ _ rfl ho _ 1 [.int .i64 p1, .int .i64 p2] rfl hpr (by simp [Value.oneCell']) (by unfold maxLen; omega) (by omega) hb ?_; intro v4 w4 o4 hg4 hat4)
    go_ret
    exact ⟨v4, rfl, by rw [Hl.out, ← Hin.out]; exact o4, mod_grown hg4, foot_of hat4⟩
  · have hc' : ¬ n = sc := fun e => hcap e.symm
    go_enter Try.func61, Try.ntmps61
    go_wp2_with (at_builtin; refine wpList_append_rd rfl _ _ 34 rfl base 42 i0 (.agg #[.int .i64 0, .int .i64 0]) 2 16 Try.underlying34 hi hz0 hz1 hz2 rfl (by decide) _ _ _ rfl ho _ 1 [.int .i64 p1, .int .i64 p2] rfl hpr (by simp [Value.oneCell']) (by unfold maxLen; omega) (by omega) hb ?_; intro v4 w4 o4 hg4 hat4)
    go_ret
    exact ⟨v4, rfl, by rw [Hl.out, ← Hin.out]; exact o4, mod_grown hg4, foot_of hat4⟩
theorem ins_cells (l : List Pr) (k n : Nat) (p : Pr) (_hl : l.length = n) (_hk : k < n) : pairCells (insP l k p) = pairCells (l.take k) ++ ([.int .i64 p.1, .int .i64 p.2] ++ pairCells (l.drop k)) := by
  rw [insP, pairs_append]; rfl
set_option maxRecDepth 100000 in
set_option maxHeartbeats 4000000 in
theorem insert_grow (base g : Nat) (sv : Value) (n k : Nat) (l : List Pr) (p : Pr) (hl : l.length = n) (hn : n ≤ 4095) (hk : k < n) (w : World) (hb : base ≤ w.heap.size) (ho : w.ownsRow base 42 2 sv n (pairCells l)) (hp : Blk w g 42 [.int .i64 p.1, .int .i64 p.2])
    (hcap : ∀ a c, sv = .slice a n c → c = n) :
    Calls Try.prog 61 #[sv, .int .i64 k, .slice (some ⟨g, 0, none⟩) 1 1] w (InsPost base sv l k p w) := by
  obtain ⟨i0, hi, hz0, hz1, hz2⟩ := info_parts info42
  obtain ⟨b, rfl⟩ : ∃ b, sv = .slice (some ⟨b, 0, none⟩) n n := by
    obtain ⟨b, sc, e⟩ := own_shape ho (by omega)
    exact ⟨b, by rw [e, hcap _ _ e]⟩
  have hrd := Rd.of_own ho
  have hins := ins_cells l k n p hl hk
  have Hins := Lib.hid hins
  obtain ⟨A, hA⟩ : ∃ A, A = pairCells (l.take k) := ⟨_, rfl⟩
  obtain ⟨D, hD⟩ : ∃ D, D = pairCells (l.drop k) := ⟨_, rfl⟩
  have hAl : A.length = k * 2 := by rw [hA, pairs_len, List.length_take]; omega
  have hDl : D.length = (n - k) * 2 := by rw [hD, pairs_len, List.length_drop]; omega
  have hA1 : ∀ u ∈ A, u.oneCell' = true := by rw [hA]; exact pairs_one _
  have hD1 : ∀ u ∈ D, u.oneCell' = true := by rw [hD]; exact pairs_one _
  have hAc : ∀ j u, A[j]? = some u → w.cell? ((⟨b, 0, none⟩ : Addr).add j) = some u := by
    intro j u hu
    have hj : j < k * 2 := by rw [← hAl]; exact (List.getElem?_eq_some_iff.1 hu).1
    rw [hA, ← pairs_take, List.getElem?_take_of_lt hj] at hu
    have := hrd.at (i := j) (by omega)
    rw [show (⟨b, 0, none⟩ : Addr).add j = ⟨b, 0 + j, none⟩ from by unfold Addr.add; split <;> simp_all, this, hu]
  have hDc : ∀ j u, D[j]? = some u → w.cell? ((⟨b, k * 2, none⟩ : Addr).add j) = some u := by
    intro j u hu
    have hj : j < (n - k) * 2 := by rw [← hDl]; exact (List.getElem?_eq_some_iff.1 hu).1
    rw [hD, ← pairs_drop, List.getElem?_drop] at hu
    have := hrd.at (i := k * 2 + j) (by omega)
    rw [show (⟨b, k * 2, none⟩ : Addr).add j = ⟨b, 0 + (k * 2 + j), none⟩ from by unfold Addr.add; split <;> simp_all, this, hu]
  have Hl := Lib.hid hl
  have HA := Lib.hid hA
  have HD := Lib.hid hD
  have HAl := Lib.hid hAl
  have HDl := Lib.hid hDl
  have HAc := Lib.hid hAc
  have HDc := Lib.hid hDc
  have hblt := Rd.block_lt hrd (by omega)
  have hglt := hp.lt
  obtain ⟨p1, p2⟩ := p
  clear hl hins hA hD hAl hDl hAc hDc hcap
  have n1 : (0 : Int) ≤ (k : Int) := by omega
  have n2 : (k : Int) ≤ (n : Int) := by omega
  have n3 : ((k : Int) == (n : Int)) = false := by
    have : ¬ (k : Int) = (n : Int) := by omega
    simpa using this
  have n4 : ¬ k = n := by omega
  go_enter Try.func61, Try.ntmps61
  have hm1 : Nat.min 1 (n + 1 - k) = 1 := Nat.min_eq_left (by omega)
  have Hm1 := Lib.hid hm1
  clear hm1
  have hc40 : (Try.prog.info? 42).map (·.size) = some 2 := by kernel_rfl
  have Hc40 := Lib.hid hc40
  clear hc40
  go_upto_region 10 with (
      (at_builtin; refine wpList_append_zeros rfl _ _ 34 3 rfl 42 i0 (.agg #[.int .i64 0, .int .i64 0]) 2 16 Try.underlying34 Try.underlying3 hi hz0 hz1 hz2 rfl (by decide) (by decide) ⟨b, 0, none⟩ k n rfl A HAl.out HAc.out _ (n + 1 - k) rfl (by omega) (by omega) (by omega) (by unfold maxLen; omega) (by omega) ?_
       intro w4 c Z hc1 hc2 hZ b4 B4
       have hc3 : ¬ k = c := by omega
       have hc4 : (k : Int) ≤ (c : Int) := by omega
       have hc5 : (k : Int) ≤ (n : Int) + 1 := by omega
       have p4 := hp.below B4 hglt
       have HZ := Lib.hid hZ
       have hsum : k + (n + 1 - k) = n + 1 := by omega
       have Hsum := Lib.hid hsum
       clear hZ hsum
       rw [Hsum.out]))
  go_wp2_with (
      ((with_reducible refine (show wpList _ _ _ (⟨some 45, _, _, _, _, _⟩ :: _) _ _ from ?_)); refine wpList_copyK rfl (.tmp 43) (.tmp 44) 34 34 rfl 42 2 Try.underlying34 Hc40.out w.heap.size (k * 2) _ _ ⟨g, 0, none⟩ _ _ rfl rfl (A ++ Z) 42 b4 [.int .i64 p1, .int .i64 p2] (by rw [Hm1.out]; rfl) (blk_src p4) (by simp [HAl.out, HZ.out]; omega) (by simp [Value.oneCell']) ?_
       intro w5 b5 m5))
  have w1' : IntKind.i64.wrap ((k : Int) + 1) = (k : Int) + 1 := IntWalk.i64_in _ (by omega)
  have w2' : (0 : Int) ≤ (k : Int) + 1 := by omega
  have w3' : (k : Int) + 1 ≤ (n : Int) + 1 := by omega
  have w4' : ((k : Int) + 1).toNat = k + 1 := by omega
  have w5' : ¬ c = k + 1 := by omega
  have n5 : ¬ n = k := by omega
  have hmin : Nat.min (n - k) (n - k) = n - k := Nat.min_self _
  have Hmin := Lib.hid hmin
  have hblk : ¬ b = w.heap.size := by omega
  have hDs : ∀ (j : Nat) (u : Value), D[j]? = some u → w5.drew.cell? ((⟨b, k * 2, none⟩ : Addr).add j) = some u := fun j u hu => by
    have := HDc.out j u hu
    rw [add_off] at this ⊢
    exact (m5.cell (p := ⟨b, _, none⟩) (by have := B4.size; simp only; omega) (by simp only; exact hblk)).trans ((B4.cell (p := ⟨b, _, none⟩) hblt).trans this)
  have HDs := Lib.hid hDs
  have hs1 : splice (A ++ Z) (k * 2) [.int .i64 p1, .int .i64 p2] = A ++ ([.int .i64 p1, .int .i64 p2] ++ Z.drop 2) := by
    have e : Z = Z.take 2 ++ Z.drop 2 := (List.take_append_drop 2 Z).symm
    have hl2 : (Z.take 2).length = 2 := by rw [List.length_take, HZ.out]; omega
    conv => lhs; rw [e, ← HAl.out]
    exact splice_at A (Z.take 2) (Z.drop 2) _ (by rw [hl2]; rfl)
  rw [hs1] at b5
  have hZd : (Z.drop 2).length = (c - k) * 2 - 2 := by rw [List.length_drop, HZ.out]
  have HZd := Lib.hid hZd
  clear hmin hDs hs1 hZd
  go_region_law (refine step_copyK (by rfl) (.tmp 50) (.tmp 53) 34 34 (by rfl) 42 2 Try.underlying34 Hc40.out w.heap.size ((k + 1) * 2) (n - k) (c - (k + 1)) ⟨b, k * 2, none⟩ (n - k) (n - k) (by go_simp) (by go_simp) _ 42 b5.drew D (by rw [Hmin.out]; exact HDl.out) HDs.out (by simp [HAl.out, HZd.out, HDl.out]; omega) hD1 ?_; intro w6 b6 m6)
  go_wp2
  go_ret
  have hs2 : splice (A ++ ([.int .i64 p1, .int .i64 p2] ++ Z.drop 2)) ((k + 1) * 2) D = A ++ ([.int .i64 p1, .int .i64 p2] ++ (D ++ (Z.drop 2).drop ((n - k) * 2))) := by
    have hd := HDl.out
    have e : Z.drop 2 = (Z.drop 2).take ((n - k) * 2) ++ (Z.drop 2).drop ((n - k) * 2) := (List.take_append_drop _ _).symm
    have hl2 : ((Z.drop 2).take ((n - k) * 2)).length = (n - k) * 2 := by rw [List.length_take, HZd.out]; omega
    have hAl := HAl.out
    have := splice_at (A ++ [.int .i64 p1, .int .i64 p2]) ((Z.drop 2).take ((n - k) * 2)) ((Z.drop 2).drop ((n - k) * 2)) D (by rw [hl2, hd])
    rw [← e] at this
    simpa [hAl, List.append_assoc, show (k + 1) * 2 = k * 2 + 2 by omega] using this
  rw [hs2] at b6
  refine ⟨_, rfl, ?_, ?_, fun r e => .inr (by simp [Value.ownBlock] at e; omega)⟩
  · rw [Hins.out, ← HA.out, ← HD.out, Hl.out]
    refine ⟨by simp [HAl.out, HDl.out]; omega, .inr ⟨w.heap.size, c, _, rfl, hb, b6, by omega, hc2, ?_, ?_⟩⟩
    · have e1 := HAl.out
      have e2 := HDl.out
      have e3 := HZ.out
      simp only [List.size_toArray, List.length_append, List.length_cons, List.length_nil, List.length_drop, e1, e2, e3]
      omega
    · have e : (n + 1) * 2 = (A ++ ([Value.int .i64 p1, .int .i64 p2] ++ D)).length := by
        have e1 := HAl.out
        have e2 := HDl.out
        simp only [List.length_append, List.length_cons, List.length_nil, e1, e2]
        omega
      rw [show A ++ ([Value.int .i64 p1, .int .i64 p2] ++ (D ++ (Z.drop 2).drop ((n - k) * 2))) = (A ++ ([Value.int .i64 p1, .int .i64 p2] ++ D)) ++ (Z.drop 2).drop ((n - k) * 2) by simp only [List.append_assoc], e]
      exact List.take_left
  · have hsz := B4.size
    have hS5 := m5.size
    refine ⟨m6.os.trans (m5.os.trans B4.os), m6.tape.trans (m5.tape.trans B4.tape), m6.output.trans (m5.output.trans B4.output), Nat.le_trans hsz (Nat.le_trans hS5 m6.size), fun j hj hs => ?_⟩
    rw [m6.block j (Nat.lt_of_lt_of_le hj (Nat.le_trans hsz hS5)) (by omega)]
    exact (m5.block j (by omega) (by omega)).trans (B4.block j hj)
end Go.Proofs.Ytlcmjpligaiadaa
