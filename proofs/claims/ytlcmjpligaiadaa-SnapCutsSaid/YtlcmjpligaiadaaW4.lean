/- slices.Insert of one pair where there is room; all of it together. -/
import Derived.Test.YtlcmjpligaiadaaW3
import Derived.Laws.Externs
import Derived.IntWalk
namespace Go.Proofs.Ytlcmjpligaiadaa
open Go.RowKit
theorem shape_blk {w : World} {b : Nat} {t : TypeId} {vs : List Value} (h : Blk w b t vs) : w.shape? b = some (t, vs.length) := by
  unfold Blk at h; simp [World.shape?, h]
theorem own_cur {w : World} {base b n c : Nat} {xs : List Value} (h : w.ownsRow base 42 2 (.slice (some ⟨b, 0, none⟩) n c) n xs) : ∃ E, Blk w b 42 (xs ++ E) ∧ E.length = (c - n) * 2 ∧ n ≤ c ∧ c ≤ maxLen ∧ base ≤ b := by
  obtain ⟨h1, h2⟩ := h
  rcases h2 with ⟨h2, _⟩ | ⟨g', cap, cur, hv, hg, hh, hn, hm, hsz, hx⟩
  · cases h2
  · simp only [Value.slice.injEq, Option.some.injEq, Addr.mk.injEq, and_true, true_and] at hv
    obtain ⟨rfl, rfl⟩ := hv
    refine ⟨cur.toList.drop (n * 2), ?_, ?_, hn, hm, hg⟩
    · unfold Blk
      rw [← hx, List.take_append_drop]
      simpa using hh
    · rw [List.length_drop, Array.length_toList, hsz, ← Nat.sub_mul]
theorem own_of_cur {w : World} {base b n c : Nat} {xs E : List Value} (h : Blk w b 42 (xs ++ E)) (hl : xs.length = n * 2) (hE : E.length = (c - n) * 2) (hn : n ≤ c) (hm : c ≤ maxLen) (hb : base ≤ b) : w.ownsRow base 42 2 (.slice (some ⟨b, 0, none⟩) n c) n xs := by
  refine ⟨hl, .inr ⟨b, c, (xs ++ E).toArray, rfl, hb, h, hn, hm, ?_, ?_⟩⟩
  · simp only [List.size_toArray, List.length_append, hl, hE]
    rw [← Nat.add_mul]; congr 1; omega
  · rw [← hl]; exact List.take_left
set_option maxRecDepth 100000 in
set_option maxHeartbeats 4000000 in
theorem insert_room (base g b : Nat) (n k c : Nat) (l : List Pr) (p : Pr) (hl : l.length = n) (hn : n ≤ 4095) (hk : k < n) (hc : n < c) (w : World) (hbg : b ≠ g) (ho : w.ownsRow base 42 2 (.slice (some ⟨b, 0, none⟩) n c) n (pairCells l)) (hp : Blk w g 42 [.int .i64 p.1, .int .i64 p.2]) :
    Calls Try.prog 61 #[.slice (some ⟨b, 0, none⟩) n c, .int .i64 k, .slice (some ⟨g, 0, none⟩) 1 1] w (InsPost base (.slice (some ⟨b, 0, none⟩) n c) l k p w) := by
  obtain ⟨E, hcur, hEl, _, hcm, hbb⟩ := own_cur ho
  have hins := ins_cells l k n p hl hk
  have Hins := Lib.hid hins
  obtain ⟨A, hA⟩ : ∃ A, A = pairCells (l.take k) := ⟨_, rfl⟩
  obtain ⟨D, hD⟩ : ∃ D, D = pairCells (l.drop k) := ⟨_, rfl⟩
  have hAl : A.length = k * 2 := by rw [hA, pairs_len, List.length_take]; omega
  have hDl : D.length = (n - k) * 2 := by rw [hD, pairs_len, List.length_drop]; omega
  have hD1 : ∀ u ∈ D, u.oneCell' = true := by rw [hD]; exact pairs_one _
  have hAD : pairCells l = A ++ D := by rw [hA, hD, ← pairs_append, List.take_append_drop]
  have hDc : ∀ j u, D[j]? = some u → w.cell? ((⟨b, k * 2, none⟩ : Addr).add j) = some u := by
    intro j u hu
    have hj : j < (n - k) * 2 := by rw [← hDl]; exact (List.getElem?_eq_some_iff.1 hu).1
    rw [add_off, hcur.cell, hAD, List.append_assoc, List.getElem?_append_right (by omega), hAl, Nat.add_sub_cancel_left, List.getElem?_append_left (by omega)]
    exact hu
  have hsa := shape_blk hp
  have hsb := shape_blk hcur
  have hlen : (pairCells l ++ E).length = c * 2 := by
    rw [List.length_append, pairs_len, hl, hEl, ← Nat.add_mul]; congr 1; omega
  rw [hlen] at hsb
  have hov : ∀ lb cb, (callFunc 80 #[.slice (some ⟨g, 0, none⟩) 1 1, .slice (some ⟨b, (k + 1) * 2, none⟩) lb cb]).run Try.prog w = .ok (.value (.bool false)) w := fun lb cb => by
    rw [run_callFunc_extern Try.func80 (by kernel_rfl) (by kernel_rfl) (by kernel_rfl) (e := Extern.SlicesOverlaps.overlaps #[34, 34] #[4]) (by kernel_rfl),
      Lib.run_overlaps_apart w 34 4 42 Try.underlying34 2 Try.sizeOf42 ⟨g, 0, none⟩ ⟨b, (k + 1) * 2, none⟩ 1 1 lb cb (fun e => hbg e.symm) 42 42 2 (c * 2) hsa hsb (by omega) (hp.frozen 0) (hp.frozen 2)]
    rfl
  have Hl := Lib.hid hl
  have HA := Lib.hid hA
  have HD := Lib.hid hD
  have HAl := Lib.hid hAl
  have HDl := Lib.hid hDl
  have HDc := Lib.hid hDc
  have HEl := Lib.hid hEl
  rw [hAD] at hcur
  have hblt := hcur.lt
  have hglt := hp.lt
  have Hov := Lib.hid hov
  have hc40 : (Try.prog.info? 42).map (·.size) = some 2 := by kernel_rfl
  have Hc40 := Lib.hid hc40
  obtain ⟨p1, p2⟩ := p
  unfold maxLen at hcm
  clear hl hins hA hD hAl hDl hDc hEl hAD hsa hsb hlen hov hc40 ho
  have n1 : (0 : Int) ≤ (k : Int) := by omega
  have n2 : (k : Int) ≤ (n : Int) := by omega
  have n3 : ((k : Int) == (n : Int)) = false := by
    have : ¬ (k : Int) = (n : Int) := by omega
    simpa using this
  have n4 : ¬ k = n := by omega
  have n5 : ¬ n = k := by omega
  have n6 : ¬ (c : Int) < (n : Int) + 1 := by omega
  have n7 : (n : Int) + 1 ≤ (c : Int) := by omega
  have n8 : ¬ c = k + 1 := by omega
  have n9 : ¬ c = k := by omega
  have n10 : (k : Int) + 1 ≤ (n : Int) + 1 := by omega
  have n11 : (k : Int) ≤ (n : Int) + 1 := by omega
  go_enter Try.func61, Try.ntmps61
  go_wp2_with (simp only [Hov.out])
  have w1' : IntKind.i64.wrap ((k : Int) + 1) = (k : Int) + 1 := IntWalk.i64_in _ (by omega)
  have w2' : (0 : Int) ≤ (k : Int) + 1 := by omega
  have w4' : ((k : Int) + 1).toNat = k + 1 := by omega
  have hmin : Nat.min (n + 1 - k) (n - k) = n - k := Nat.min_eq_right (by omega)
  have Hmin := Lib.hid hmin
  have hmin1 : Nat.min 1 (n + 1 - k) = 1 := Nat.min_eq_left (by omega)
  have Hmin1 := Lib.hid hmin1
  -- the row in pieces
  obtain ⟨X, hX⟩ : ∃ X, X = (D ++ E).drop 2 := ⟨_, rfl⟩
  obtain ⟨Y, hY⟩ : ∃ Y, Y = (D ++ E).take 2 := ⟨_, rfl⟩
  obtain ⟨Z, hZ⟩ : ∃ Z, Z = X.drop ((n - k) * 2) := ⟨_, rfl⟩
  obtain ⟨V, hV⟩ : ∃ V, V = X.take ((n - k) * 2) := ⟨_, rfl⟩
  have e1 := HDl.out
  have e2 := HEl.out
  have e3 := HAl.out
  have hXl : X.length = (n - k) * 2 + (c - n) * 2 - 2 := by rw [hX, List.length_drop, List.length_append, e1, e2]
  have hYl : Y.length = 2 := by rw [hY, List.length_take, List.length_append, e1, e2]; omega
  have hZl : Z.length = (c - (n + 1)) * 2 := by rw [hZ, List.length_drop, hXl]; omega
  have hVl : V.length = (n - k) * 2 := by rw [hV, List.length_take, hXl]; omega
  have hrow : (A ++ D) ++ E = (A ++ Y) ++ (V ++ Z) := by
    have q1 : D ++ E = Y ++ X := by rw [hX, hY, List.take_append_drop]
    have q2 : X = V ++ Z := by rw [hZ, hV, List.take_append_drop]
    rw [List.append_assoc, q1, q2, List.append_assoc]
  rw [hrow] at hcur
  have HYl := Lib.hid hYl
  have HZl := Lib.hid hZl
  have HVl := Lib.hid hVl
  clear hmin hmin1 hX hY hZ hV e1 e2 e3 hXl hYl hZl hVl hrow
  go_region_law (refine step_copyK (by rfl) (.tmp 73) (.tmp 76) 34 34 (by rfl) 42 2 Try.underlying34 Hc40.out b ((k + 1) * 2) (n - k) (c - (k + 1)) ⟨b, k * 2, none⟩ (n + 1 - k) (c - k) (by go_simp) (by go_simp) _ 42 hcur.drew D (by rw [Hmin.out]; exact HDl.out) HDc.out (by simp only [List.length_append, HAl.out, HYl.out, HVl.out, HZl.out, HDl.out]; omega) hD1 ?_; intro w5 b5 m5)
  have hs1 : splice ((A ++ Y) ++ (V ++ Z)) ((k + 1) * 2) D = A ++ (Y ++ (D ++ Z)) := by
    have := splice_at (A ++ Y) V Z D (by rw [HDl.out, HVl.out])
    rw [List.length_append, HAl.out, HYl.out, show k * 2 + 2 = (k + 1) * 2 by omega] at this
    rw [this, List.append_assoc]
  rw [hs1] at b5
  have p5 := hp.drew.mod m5 (fun e => hbg (Eq.symm e))
  have hAl2 := HAl.out
  have Hs1 := Lib.hid hs1
  clear hs1
  clear hAl2
  go_wp2_with ((with_reducible refine (show wpList _ _ _ (⟨some 82, _, _, _, _, _⟩ :: _) _ _ from ?_)); refine wpList_copyK rfl (.tmp 80) (.tmp 81) 34 34 rfl 42 2 Try.underlying34 Hc40.out b (k * 2) _ _ ⟨g, 0, none⟩ _ _ rfl rfl (A ++ (Y ++ (D ++ Z))) 42 b5 [.int .i64 p1, .int .i64 p2] (by rw [Hmin1.out]; rfl) (blk_src p5) (by simp only [List.length_append, HAl.out, HYl.out, HZl.out, HDl.out, List.length_cons, List.length_nil]; omega) (by simp [Value.oneCell']) ?_; intro w6 b6 m6)
  go_ret
  have hs2 : splice (A ++ (Y ++ (D ++ Z))) (k * 2) [.int .i64 p1, .int .i64 p2] = (A ++ ([.int .i64 p1, .int .i64 p2] ++ D)) ++ Z := by
    have := splice_at A Y (D ++ Z) [Value.int .i64 p1, .int .i64 p2] (by rw [HYl.out]; rfl)
    rw [HAl.out] at this
    rw [this]
    simp only [List.append_assoc]
  rw [hs2] at b6
  refine ⟨_, rfl, ?_, ?_, fun r e => .inl e⟩
  · rw [Hins.out, ← HA.out, ← HD.out, Hl.out]
    exact own_of_cur b6 (by simp only [List.length_append, List.length_cons, List.length_nil, HAl.out, HDl.out]; omega) HZl.out (by omega) (by unfold maxLen; omega) hbb
  · exact ((Mod.refl _ w).drew).trans ((m5.trans m6).mono (fun j _ e => by subst e; rfl))
/-- slices.Insert of one pair, all ways. -/
theorem insert_any (base g : Nat) (sv : Value) (n k : Nat) (l : List Pr) (p : Pr) (hl : l.length = n) (hn : n ≤ 4095) (hk : k ≤ n) (w : World) (hb : base ≤ w.heap.size) (ho : w.ownsRow base 42 2 sv n (pairCells l)) (hp : Blk w g 42 [.int .i64 p.1, .int .i64 p.2])
    (hg : sv.ownBlock ≠ some g) : Calls Try.prog 61 #[sv, .int .i64 k, .slice (some ⟨g, 0, none⟩) 1 1] w (InsPost base sv l k p w) := by
  rcases Nat.lt_or_ge k n with h | h
  · obtain ⟨b, c, rfl⟩ := own_shape ho (by omega)
    rcases Nat.lt_or_ge n c with h2 | h2
    · exact insert_room base g b n k c l p hl hn h h2 w (fun e => hg (by rw [← e]; rfl)) ho hp
    · have hc : c = n := by
        obtain ⟨_, _, _, hnc, _, _⟩ := own_cur ho
        omega
      exact insert_grow base g _ n k l p hl hn h w hb ho hp (fun a c' e => by simp only [Value.slice.injEq] at e; omega)
  · obtain rfl : k = n := by omega
    exact insert_end base g sv k l p hl hn w hb ho hp
end Go.Proofs.Ytlcmjpligaiadaa
