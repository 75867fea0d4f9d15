/- Trees: Put. -/
import Derived.Test.YtadfmhjnmmmalaaN8
namespace Go.Proofs.Ytadfmhjnmmmalaa
open Go.RowKit Go.Maps
theorem del_has {L : List Lf} {h : Int} : ∀ x ∈ delL L h, x.1 ≠ h := fun _ hx => of_decide_eq_true (List.mem_filter.1 hx).2
theorem ins_len {L : List Lf} {h : Int} (b : Bx) (hn : ∀ x ∈ L, x.1 ≠ h) : (insL L h b).length = L.length + 1 := by
  rw [(ins_perm L h b).length_eq, List.length_append, del_none hn]
  rfl
theorem ins_del (L : List Lf) (h : Int) (b : Bx) : insL (delL L h) h b = insL L h b := by
  unfold insL delL
  rw [List.filter_filter, List.filter_filter]
  congr 1
  · refine List.filter_congr (fun x _ => ?_)
    by_cases h1 : x.1 < h
    · have : x.1 ≠ h := by omega
      simp [h1, this]
    · simp [h1]
  · congr 1
    refine List.filter_congr (fun x _ => ?_)
    by_cases h1 : h < x.1
    · have : x.1 ≠ h := by omega
      simp [h1, this]
    · simp [h1]
/-- Behind hang. -/
theorem tree_hung {w' : World} {t : Nat} {vn vf : Value} {mb : Nat} {room : Nat} {ms : List Nd} {gr : List Nat} {root : Int} {n : Nat} {D : DataW Unit} {ls : List (Int × Nat × Bx)} {u : T} {L : List Lf} {h : Int} {j : Nat} {b : Bx}
    (hR : Raw w' t vn vf mb (room : Int) ms gr root n (D.put (.int .i64 h) (.lit (.int .i64 (j : Int))))) (hD : Tidy D) (hS : St ms gr root (some u)) (hT : Tie D ls) (hpl : u.leaves.Perm (ls ++ [(h, j, b)])) (hp : (ls.map bare).Perm L) (hL : Rises L) (hn : ∀ x ∈ L, x.1 ≠ h) (hms : ms.length ≤ 2048) (hr : L.length + 1 ≤ room) (hr2 : room ≤ 1024) (hk : ∀ x ∈ L, In64 x.1) (hh : In64 h) :
    Tree w' t (Foot t vn vf mb) room (insL L h b) := by
  have h2 : ∀ y ∈ ls, y.1 ≠ h := fun y hy => hn (bare y) (hp.mem_iff.1 (List.mem_map_of_mem hy))
  have h3 := (hT.put hD (j := j) (b := b) h2).perm hpl.symm
  have h1 : (u.leaves.map bare).Perm (insL L h b) := by
    refine (hpl.map bare).trans ?_
    rw [List.map_append]
    have := ins_perm L h b
    rw [del_none hn] at this
    exact (hp.append_right _).trans this.symm
  have hl := ins_len b hn
  refine ⟨vn, vf, mb, ms, gr, root, _, some u, rfl, hR.tight (by rw [h3.2.2, ← h1.length_eq, List.length_map]), hS, h3, h1, ins_rises hL h b, hms, by omega, hr2, fun x hx => ?_⟩
  have := (ins_perm L h b).mem_iff.1 hx
  rcases List.mem_append.1 this with h4 | h4
  · exact hk x (List.mem_filter.1 h4).1
  · simp only [List.mem_singleton] at h4
    subst h4
    exact hh
def putR (room : Nat) (L : List Lf) (h : Int) (b : Bx) : Int × List Lf :=
  if h < 1 ∨ mayB b = false ∨ hasL L h = true then (1, L) else if room ≤ L.length then (80, L) else (0, insL L h (grownB b))
theorem hasL_false {L : List Lf} {h : Int} (e : hasL L h = false) : ∀ x ∈ L, x.1 ≠ h := by
  unfold hasL at e
  cases hb : boxOf L h with
  | none => exact boxOf_none.1 hb
  | some b => rw [hb] at e; cases e
set_option maxRecDepth 100000 in
set_option maxHeartbeats 1000000 in
theorem put10_any (t : Nat) (S : Nat → Prop) (room : Nat) (L : List Lf) (h : Int) (hh : In64 h) (b : Bx) (w : World) (hT : Tree w t S room L) :
    Calls Try.prog 10 #[.pointer (some ⟨t, 0, none⟩), .int .i64 h, boxV b] w fun e w' => e = .returned (.int .i64 (putR room L h b).1) ∧ ∃ S', Tree w' t S' room (putR room L h b).2 ∧ Turn S S' w w' := by
  have hTr := hT
  obtain ⟨vn, vf, mb, ns, fr, root, D, o, rfl, hR, hS, hT, hp, hL, hns, hr, hr2, hk⟩ := hT
  have B0 : Below w.heap.size w (w.alloc (.cells b.cells.toArray 34)) := (Below.refl _ w).alloc (Nat.le_refl _) _
  have bb := Blk.newAt (w := w) (b := w.heap.size) rfl 34 b.cells
  have hRa := hR.alloc (.cells b.cells.toArray 34)
  have hTra := hTr.below B0
  have c4 := hR.1.cell 4
  have c0 := hR.1.cell 0
  simp only [List.getElem?_cons_zero, List.getElem?_cons_succ] at c4 c0
  have hm := hRa.2.2.2
  have hhas := tree_has hT hp h
  have htl := hR.1.lt
  go_enter Try.func10, Try.ntmps10
  by_cases h1 : h < 1
  · have hres : putR room L h b = (1, L) := by unfold putR; rw [if_pos (.inl h1)]
    rw [hres]
    go_wp2_with (at_lookup; refine wpList_lookup_own_ok_int _ rfl _ _ 69 rfl 30 3 .i64 law30 Try.underlying69 Try.underlying3 (zero3 _) mb _ D rfl hm _ _ rfl (key30 hh) ?_; intro cc hat hwc; rw [hhas])
    go_ret
    exact ⟨rfl, _, hTra, Turn.of_below _ B0⟩
  · go_wp2_with (at_lookup; refine wpList_lookup_own_ok_int _ rfl _ _ 69 rfl 30 3 .i64 law30 Try.underlying69 Try.underlying3 (zero3 _) mb _ D rfl hm _ _ rfl (key30 hh) ?_; intro cc hat hwc; rw [hhas])
    refine (may30_any b _).mono ?_
    rintro e w2 ⟨rfl, B2⟩
    have BW2 := B0.trans (B2.mono B0.size)
    have hR2 := hRa.below B2
    have hTr2 := hTra.below B2
    cases hmy : mayB b with
    | false =>
      have Hres := Lib.hid (show putR room L h b = (1, L) from by unfold putR; rw [if_pos (.inr (.inl hmy))])
      go_wp2_with fail
      go_ret
      rw [Hres.out]
      exact ⟨rfl, _, hTr2, Turn.of_below _ BW2⟩
    | true =>
      cases hhs : hasL L h with
      | true =>
        have Hres := Lib.hid (show putR room L h b = (1, L) from by unfold putR; rw [if_pos (.inr (.inr hhs))])
        go_wp2_with fail
        go_ret
        rw [Hres.out]
        exact ⟨rfl, _, hTr2, Turn.of_below _ BW2⟩
      | false =>
        have hno := hasL_false hhs
        have hlen : ∀ k ty, (Builtin.len_ #[69] ty #[.map (some mb)]).run Try.prog (w2.drewN k) = .ok (.int .i64 (L.length : Int)) (w2.drewN k) := fun k ty => by
          have := World.ownsMap.len (w := w2.drewN k) (show MapR (w2.drewN k) mb L.length D from hR2.2.2.2) Try.underlying69 ty
          rw [this, hT.2.2, ← hp.length_eq, List.length_map]
        have d4 := hR2.1.cell 4
        have d0 := hR2.1.cell 0
        simp only [List.getElem?_cons_zero, List.getElem?_cons_succ] at d4 d0
        have bb2 := bb.below B2 (by simp)
        have a0 : _ = some (Value.int .i64 b.x0) := bb2.cell 0
        have a1 : _ = some (Value.int .i64 b.y0) := bb2.cell 1
        have a2 : _ = some (Value.int .i64 b.z0) := bb2.cell 2
        have a3 : _ = some (Value.int .i64 b.x1) := bb2.cell 3
        have a4 : _ = some (Value.int .i64 b.y1) := bb2.cell 4
        have a5 : _ = some (Value.int .i64 b.z1) := bb2.cell 5
        have Hlen := Lib.hid hlen
        by_cases hfl : room ≤ L.length
        · have Hres := Lib.hid (show putR room L h b = (80, L) from by unfold putR; rw [if_neg (by rw [hmy, hhs]; simp; omega), if_pos hfl])
          have hg : decide ((room : Int) ≤ (L.length : Int)) = true := by simp; omega
          go_wp2_with fail
          have Hl0 := Hlen.out
          go_quiet (fail)
          have BW3 := Below.drewN' BW2 nq
          have hTr3 := hTr2.below (Below.drewN' (Below.refl _ w2) nq)
          go_wp2
          go_ret
          rw [Hres.out]
          exact ⟨rfl, _, hTr3, Turn.of_below _ BW3⟩
        · have Hres := Lib.hid (show putR room L h b = (0, insL L h (grownB b)) from by unfold putR; rw [if_neg (by rw [hmy, hhs]; simp; omega), if_neg hfl])
          have hg : decide ((room : Int) ≤ (L.length : Int)) = false := by simp; omega
          go_wp2_with fail
          have Hl0 := Hlen.out
          go_quiet (fail)
          have BW3 := Below.drewN' BW2 nq
          have B23 := Below.drewN' (Below.refl w2.heap.size w2) nq
          have hR3 := hR2.below B23
          have bb3 := bb2.below B23 bb2.lt
          clear Hl0 a0 a1 a2 a3 a4 a5 d4 d0 bb2
          generalize w2.drewN nq = w3 at *
          have a0 : _ = some (Value.int .i64 b.x0) := bb3.cell 0
          have a1 : _ = some (Value.int .i64 b.y0) := bb3.cell 1
          have a2 : _ = some (Value.int .i64 b.z0) := bb3.cell 2
          have a3 : _ = some (Value.int .i64 b.x1) := bb3.cell 3
          have a4 : _ = some (Value.int .i64 b.y1) := bb3.cell 4
          have a5 : _ = some (Value.int .i64 b.z1) := bb3.cell 5
          go_wp2_with fail
          refine (grown32_any b hmy w3).mono ?_
          rintro e w4 ⟨rfl, B4⟩
          have hol : (oleaves o).length = L.length := by rw [← hp.length_eq, List.length_map]
          go_wp2_with fail
          refine (hang31_any t mb vn vf _ ns fr root _ D o h (grownB b) w4 (hR3.below B4) hS hh hns (by omega) (by omega)).mono ?_
          rintro e w5 ⟨rfl, ms, gr, root', vn', vf', j, u, hR5, hS5, hp5, hm5, hT5⟩
          go_wp2
          go_ret
          rw [Hres.out]
          exact ⟨rfl, _, tree_hung hR5 hR.tidy hS5 hT hp5 hp hL hno hm5 (by omega) hr2 hk hh, (Turn.of_below _ (BW3.trans (B4.mono BW3.size))).trans hT5⟩
end Go.Proofs.Ytadfmhjnmmmalaa
