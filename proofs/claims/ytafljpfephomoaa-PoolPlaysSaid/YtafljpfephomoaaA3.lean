/- The walk of the island's Groups. -/
import Derived.Test.YtafljpfephomoaaA2
import Derived.Test.YtafljpfephomoaaF
import Derived.Deep.RegionHeld3
import Derived.Deep.RegionWith
import Derived.Deep.DeepCutAuto
import Derived.WalkSpells
namespace Go.Proofs.Ytafljpfephomoaa
open Go.RowKit
def pairCells (ls : List (Int × Int)) : List Value := ls.flatMap fun p => [.int .i64 p.1, .int .i64 p.2]
theorem pair0 {ls : List (Int × Int)} {k : Nat} (h : k < ls.length) : (pairCells ls)[k * 2]? = some (.int .i64 (ls[k]?.getD (0, 0)).1) := by
  induction ls generalizing k with
  | nil => simp at h
  | cons a ls ih =>
    cases k with
    | zero => simp [pairCells]
    | succ k =>
      simp only [List.length_cons] at h
      have := ih (k := k) (by omega)
      simp only [pairCells, List.flatMap_cons, List.getElem?_cons_succ] at this ⊢
      rw [show (k + 1) * 2 = k * 2 + 1 + 1 from by omega]
      simpa using this
theorem pair1 {ls : List (Int × Int)} {k : Nat} (h : k < ls.length) : (pairCells ls)[k * 2 + 1]? = some (.int .i64 (ls[k]?.getD (0, 0)).2) := by
  induction ls generalizing k with
  | nil => simp at h
  | cons a ls ih =>
    cases k with
    | zero => simp [pairCells]
    | succ k =>
      simp only [List.length_cons] at h
      have := ih (k := k) (by omega)
      simp only [pairCells, List.flatMap_cons, List.getElem?_cons_succ] at this ⊢
      rw [show (k + 1) * 2 + 1 = k * 2 + 1 + 1 + 1 from by omega]
      simpa using this
theorem joinsB_range {n i : Int} {ws : List Bool} (h : joinsB n ws i = true) : 0 ≤ i ∧ i < n := by
  simp [joinsB] at h; exact ⟨h.1.1, h.1.2⟩
def initTo (n k : Nat) : List Int := upTo k ++ List.replicate (n - k) 0
theorem initTo_len (n k : Nat) (h : k ≤ n) : (initTo n k).length = n := by simp [initTo, upTo]; omega
theorem initTo_succ (n k : Nat) (h : k < n) : (initTo n k).set k (k : Int) = initTo n (k + 1) := by
  unfold initTo upTo
  obtain ⟨m, rfl⟩ : ∃ m, n = k + 1 + m := ⟨n - k - 1, by omega⟩
  rw [show k + 1 + m - k = m + 1 from by omega, show k + 1 + m - (k + 1) = m from by omega]
  simp [List.range_succ, List.replicate_succ]
theorem initTo_all (n : Nat) : initTo n n = upTo n := by simp [initTo]
theorem initTo_zero (n : Nat) : initTo n 0 = List.replicate n 0 := by simp [initTo, upTo]
theorem ints_set (xs : List Int) (k : Nat) (v : Int) : (ints xs).set k (.int .i64 v) = ints (xs.set k v) := by simp [ints, List.map_set]
theorem made_ints (n : Nat) : (madeCells (Value.cells (.int .i64 0)) (n * 1)).toList = ints (List.replicate n 0) := by
  rw [Nat.mul_one]; simp [Value.cells, toList_madeCells_one, ints]
def outTo (g : List Int) (n k : Nat) : List Int := g.take k ++ List.replicate (n - k) 0
theorem outTo_all (g : List Int) (n : Nat) (h : g.length = n) : outTo g n n = g := by simp [outTo, ← h]
theorem outTo_succ (g : List Int) (n k : Nat) (h : g.length = n) (hk : k < n) : (outTo g n k).set k (g[k]?.getD 0) = outTo g n (k + 1) := by
  unfold outTo
  obtain ⟨m, hm⟩ : ∃ m, n = k + 1 + m := ⟨n - k - 1, by omega⟩
  rw [show n - k = m + 1 from by omega, show n - (k + 1) = m from by omega, List.set_append, List.getElem?_eq_getElem (by omega)]
  simp [show min k g.length = k from by omega, List.replicate_succ]
  rw [List.take_succ_eq_append_getElem (by omega)]
  simp only [List.append_assoc, List.singleton_append]
theorem outcell {w : World} {b : Nat} {g : List Int} {n k : Nat} (h : Blk w b 3 (ints (outTo g n k))) (hg : g.length = n) (hk : k < n) : w.cell? ⟨b, k, none⟩ = some (.int .i64 0) := by
  rw [h.cell, ints_get (by simp [outTo]; omega)]
  unfold outTo
  obtain ⟨m, hm⟩ : ∃ m, n = k + 1 + m := ⟨n - k - 1, by omega⟩
  rw [show n - k = m + 1 from by omega, List.getElem?_append_right (by rw [List.length_take]; omega)]
  simp [show min k g.length = k from by omega, List.replicate_succ]
theorem blk_eq {w : World} {b N : Nat} {v : Int} (h : Blk w b 3 [.int .i64 v]) (e : (N : Int) = v) : Blk w b 3 [.int .i64 N] := by rw [e]; exact h

set_option maxRecDepth 100000 in
set_option maxHeartbeats 4000000 in
theorem groups_any (n : Int) (lv wv : Value) (ls : List (Int × Int)) (ws : List Bool) (N : Nat) (hN : (N : Int) = min (max n 0) 4096) (w : World) (hl : Rd w lv ls.length 2 (pairCells ls)) (hw : Rd w wv ws.length 1 (bools ws)) (hlm : ls.length * 16 ≤ 140737488351232) :
    Calls Try.prog 13 #[.int .i64 n, lv, wv] w fun e w' => ∃ v, e = .returned v ∧ w'.ownsRow w.heap.size 3 1 v N (ints (groupsN N ws ls)) ∧ Below w.heap.size w w' := by
  have HN := Lib.hid hN; clear hN
  obtain ⟨i0, hi, hz0, hz1, hz2⟩ := info_parts info3
  obtain ⟨wa, wc0, rfl⟩ : ∃ a c, wv = .slice a ws.length c := by obtain ⟨a, c, h, _⟩ := hw; exact ⟨a, c, h⟩
  obtain ⟨la, lc0, rfl⟩ : ∃ a c, lv = .slice a ls.length c := by obtain ⟨a, c, h, _⟩ := hl; exact ⟨a, c, h⟩
  obtain ⟨b0, hb0⟩ : ∃ b, b = w.heap.size := ⟨_, rfl⟩
  have Hb0 := Lib.hid hb0
  go_enter Try.func13, Try.ntmps13
  go_upto_region 1 with (fail)
  go_cut [] (fun wx => Blk wx w.heap.size 3 [.int .i64 N] ∧ Blk wx (w.heap.size + 1) 35 [.slice wa ws.length wc0] ∧ Below w.heap.size w wx ∧ wx.heap.size = w.heap.size + 2)
  case first =>
    go_wp2
    all_goals (go_meet; exact ⟨blk_eq ((Blk.new w 3 [_]).alloc _) (by have := HN.out; omega), Blk.newAt (by simp) 35 [_], ((Below.refl _ _).alloc (Nat.le_refl _) _).alloc (by simp) _, by simp⟩)
  case rest =>
    obtain ⟨wF, hwF⟩ : ∃ x : World, x = wc := ⟨_, rfl⟩
    subst hwF
    obtain ⟨c1, c2, hB, hz⟩ := hcut
    have f1 := c1.cell 0
    have f2 := c2.cell 0
    simp only [List.getElem?_cons_zero] at f1 f2
    have hz' := Lib.hid hz
    have hN1 : (N : Int) ≤ 4096 := by have := HN.out; omega
    clear hz
    go_wp2_with (at_make; refine wpList_make_full _ rfl _ _ 68 rfl 0 3 i0 (.int .i64 0) 1 Try.underlying68 hi hz0 hz1 .i64 .i64 _ _ N rfl rfl rfl rfl (by rw [hz2]; omega) (by unfold maxLen; omega) (Nat.zero_le _) ?_; intro w1 hown1 hg1)
    have hF := own_blk hown1
    rw [made_ints, ← initTo_zero] at hF
    have d1 := c1.grown hg1 (by simp)
    have d2 := c2.grown hg1 (by simp)
    have hB1 := hB.grown hg1 (by have := hz'.out; omega) (by simp)
    have hs1 : wF.heap.size < w1.heap.size := hF.lt
    have hs0 : w.heap.size + 2 ≤ wF.heap.size := by have := hz'.out; omega
    clear hown1 hg1 c1 c2 f1 f2
    go_loopw [8, 23] (fun _ i wr => ∃ k : Nat, k ≤ N ∧ i = .int .i64 k ∧ Blk wr wF.heap.size 3 (ints (initTo N k)) ∧ Mod (· = wF.heap.size) w1 wr) (fun _ i _ => N - (intOf i).toNat)
    case atStart => exact ⟨0, Nat.zero_le _, rfl, hF, Mod.refl _ _⟩
    case round =>
      obtain ⟨k, hk, rfl, hFk, hm⟩ := hrel
      by_cases hlt : k < N
      · have hfr := hFk.frozen k
        have hce := hFk.cell k
        rw [ints_get (by rw [initTo_len N k hk]; exact hlt)] at hce
        have hF2 := hFk.set k (.int .i64 k)
        rw [ints_set, initTo_succ N k hlt] at hF2
        have hm2 := hm.setCell (p := ⟨wF.heap.size, k, none⟩) (fun _ => rfl) (.int .i64 k)
        go_wp2
        go_roundw
        case rel => exact ⟨k + 1, by omega, by go_num, hF2, hm2⟩
        case measure => simp [intOf]; omega
      · obtain rfl : N = k := by omega
        rw [initTo_all] at hFk
        have e1 := d1.mod hm (by omega)
        have e2 := d2.mod hm (by omega)
        have hB2 : Below w.heap.size w wr := hB1.trans (hm.below (by omega) (by omega))
        have hs2 : w1.heap.size ≤ wr.heap.size := hm.size
        have hrep := Rep.init N
        have hl2 := hl
        obtain ⟨la', lc', hle, hl3, hl4, hl5, hl6⟩ := hl2
        simp only [Value.slice.injEq, true_and] at hle
        obtain ⟨rfl, rfl⟩ := hle
        have Hl3 := Lib.hid hl3
        clear hl3 hm d1 d2 hB1 hF
        go_wp2
        obtain ⟨wo, hwo⟩ : ∃ wo : World, wo = wr := ⟨_, rfl⟩
        subst hwo
        go_loopw [34] (fun i wr => ∃ (k : Nat) (xs : List Int), k ≤ ls.length ∧ i = .int .i64 k ∧ Rep xs N (groupsTo N ws ls k) ∧ Blk wr wF.heap.size 3 (ints xs) ∧ Blk wr w.heap.size 3 [.int .i64 N] ∧ Blk wr (w.heap.size + 1) 35 [.slice wa ws.length wc0] ∧ Below w.heap.size w wr) (fun i _ => ls.length - (intOf i).toNat)
        case atStart => exact ⟨0, _, Nat.zero_le _, rfl, hrep, hFk, e1, e2, hB2⟩
        case round =>
          obtain ⟨k, xs, hk, rfl, hrep, hFk, e1, e2, hB2⟩ := hrel
          by_cases hlt : k < ls.length
          · obtain ⟨lb, loff, rfl, hlb, hlc⟩ := hl6 (by omega)
            obtain ⟨⟨p, q⟩, hpq⟩ : ∃ pq, pq = ls[k]?.getD (0, 0) := ⟨_, rfl⟩
            have g0 : wr.cell? ⟨lb, loff + k * 2, none⟩ = some (.int .i64 p) := by
              rw [hB2.cell (by exact hlb), hlc _ (by omega), pair0 hlt, ← hpq]
            have g1 : wr.cell? ⟨lb, loff + k * 2 + 1, none⟩ = some (.int .i64 q) := by
              rw [hB2.cell (by exact hlb), Nat.add_assoc, hlc _ (by omega), pair1 hlt, ← hpq]
            have Hpq := Lib.hid hpq
            clear hpq hlc
            by_cases jp : joinsB N ws p = true
            · by_cases jq : joinsB N ws q = true
              · have hst : groupsTo N ws ls (k + 1) = joinTwo (groupsTo N ws ls k) ((groupsTo N ws ls k)[p.toNat]?.getD 0) ((groupsTo N ws ls k)[q.toNat]?.getD 0) := by rw [groupsTo_succ N ws ls k hlt, ← Hpq.out]; simp [joinStep, jp, jq]
                obtain ⟨hp0, hp1⟩ := joinsB_range jp
                obtain ⟨hq0, hq1⟩ := joinsB_range jq
                obtain ⟨p, rfl⟩ := Int.eq_ofNat_of_zero_le hp0
                obtain ⟨q, rfl⟩ := Int.eq_ofNat_of_zero_le hq0
                simp only [Int.toNat_natCast] at hst
                have hJ := hrep.join (i := p) (j := q) (by omega) (by omega)
                rw [← hst] at hJ
                have Hst := Lib.hid hst
                clear hst
                have hsz := hB2.size
                have hw1 : w.heap.size ≠ wF.heap.size := by omega
                have hw2 : w.heap.size + 1 ≠ wF.heap.size := by omega
                have hw3 : w.heap.size ≤ wF.heap.size := by omega
                go_upto_region 13 with (go_at_call 38; refine (joins_any _ N w.heap.size (w.heap.size + 1) _ ws _ (e1.alloc _) (e2.alloc _) ((hw.new hB2).alloc _)).mono ?_; rintro e w' ⟨rfl, rfl⟩)
                go_cut [12, 13] (fun a b wx => ∃ xs' : List Int, a = .int .i64 (R xs p) ∧ b = .int .i64 (R xs q) ∧ Rep xs' N (groupsTo N ws ls k) ∧ (∀ j, j < N → R xs' j = R xs j) ∧ Blk wx wF.heap.size 3 (ints xs') ∧ Blk wx w.heap.size 3 [.int .i64 N] ∧ Blk wx (w.heap.size + 1) 35 [.slice wa ws.length wc0] ∧ Below w.heap.size w wx)
                case first =>
                  have q0 : (wr.alloc (.cells #[.int .i64 p, .int .i64 q] 25)).cell? ⟨wr.heap.size, 0, none⟩ = some (.int .i64 p) := (Blk.new wr 25 [_, _]).cell 0
                  have q1 : (wr.alloc (.cells #[.int .i64 p, .int .i64 q] 25)).cell? ⟨wr.heap.size, 1, none⟩ = some (.int .i64 q) := (Blk.new wr 25 [_, _]).cell 1
                  have k0 := hFk.alloc (.cells #[.int .i64 p, .int .i64 q] 25)
                  have hR1 := hrep.1
                  have hne : ¬ wr.heap.size = wF.heap.size := by have := hFk.lt; omega
                  have hR2 := hrep.2.2.1
                  have Hh := Lib.hid hR1
                  clear hR1
                  go_region_held3 (fun wx => wx.cell? ⟨wr.heap.size, 0, none⟩ = some (.int .i64 p) ∧ wx.cell? ⟨wr.heap.size, 1, none⟩ = some (.int .i64 q)) (first | go_keep | exact ⟨(hm2.cell (p := ⟨wr.heap.size, 0, none⟩) (by have := hm1.size; simp at this ⊢; omega) hne).trans ((hm1.cell (p := ⟨wr.heap.size, 0, none⟩) (by simp) hne).trans q0), (hm2.cell (p := ⟨wr.heap.size, 1, none⟩) (by have := hm1.size; simp at this ⊢; omega) hne).trans ((hm1.cell (p := ⟨wr.heap.size, 1, none⟩) (by simp) hne).trans q1)⟩ | exact ⟨(hm1.cell (p := ⟨wr.heap.size, 0, none⟩) (by simp) hne).trans q0, (hm1.cell (p := ⟨wr.heap.size, 1, none⟩) (by simp) hne).trans q1⟩)
                    (first
                      | (go_at_call 39; refine (root_any _ _ _ xs1 _ hl1 (by omega) hf1 hb1).mono ?_; rintro e w2 ⟨xs2, rfl, hl2, hf2, hb2, hm2, hr2⟩)
                      | (go_at_call 39; refine (root_any _ _ _ xs _ Hh.out (by omega) hR2 k0.drew).mono ?_; rintro e w1 ⟨xs1, rfl, hl1, hf1, hb1, hm1, hr1⟩))
                  all_goals (go_wp2; go_meet)
                  all_goals (
                    have hz1 := hm1.size
                    simp only [World.size_drew, World.size_alloc] at hz1
                    exact ⟨xs2, rfl, by rw [hr1 q (by omega)], hrep.same hl2 hf2 (fun j hj => (hr2 j hj).trans (hr1 j hj)), fun j hj => (hr2 j hj).trans (hr1 j hj), hb2, ((e1.alloc _).drew.mod hm1 hw1).mod hm2 hw1, ((e2.alloc _).drew.mod hm1 hw2).mod hm2 hw2, (((hB2.alloc hB2.size _).drew).trans (hm1.below (by simp; omega) (by intro k hk e; omega))).trans (hm2.below (by omega) (by intro k hk e; omega))⟩)
                case rest =>
                  obtain ⟨xs', rfl, rfl, hrep', hRR, hb', e1', e2', hB'⟩ := hcut
                  have hJ' := hrep'.join (i := p) (j := q) (by omega) (by omega)
                  rw [hRR p (by omega), hRR q (by omega), ← Hst.out] at hJ'
                  have hx1 := R_le hrep'.2.2.1 (i := p) (by have := hrep'.1; omega)
                  have hy1 := R_le hrep'.2.2.1 (i := q) (by have := hrep'.1; omega)
                  rw [hRR p (by omega)] at hx1
                  rw [hRR q (by omega)] at hy1
                  have hlen := hrep'.1
                  generalize R xs p = x at *
                  generalize R xs q = y at *
                  have Hlen := Lib.hid hlen
                  clear hlen
                  have cx := hb'.cell x
                  have cy := hb'.cell y
                  rw [ints_get (by have := Hlen.out; omega)] at cx cy
                  have fx := hb'.frozen x
                  have fy := hb'.frozen y
                  have hsz3 := hB'.size
                  rcases Nat.lt_trichotomy x y with hxy | hxy | hxy
                  · have hb2 := hb'.set y (.int .i64 x)
                    rw [ints_set] at hb2
                    rw [Nat.max_eq_right (Nat.le_of_lt hxy), Nat.min_eq_left (Nat.le_of_lt hxy)] at hJ'
                    have hxy' : (x : Int) < (y : Int) := by omega
                    have e1'' := e1'.setCell_ne (p := ⟨wF.heap.size, y, none⟩) hw1 (.int .i64 x)
                    have e2'' := e2'.setCell_ne (p := ⟨wF.heap.size, y, none⟩) hw2 (.int .i64 x)
                    have hB'' := hB'.setCell (p := ⟨wF.heap.size, y, none⟩) hw3 (.int .i64 x)
                    go_wp2
                    go_roundw
                    case rel => exact ⟨k + 1, _, by omega, by go_num, hJ', hb2, e1'', e2'', hB''⟩
                    case measure => simp [intOf]; omega
                  · subst hxy
                    have hb2 := hb'.set x (.int .i64 x)
                    rw [ints_set] at hb2
                    rw [Nat.max_self, Nat.min_self] at hJ'
                    have e1'' := e1'.setCell_ne (p := ⟨wF.heap.size, x, none⟩) hw1 (.int .i64 x)
                    have e2'' := e2'.setCell_ne (p := ⟨wF.heap.size, x, none⟩) hw2 (.int .i64 x)
                    have hB'' := hB'.setCell (p := ⟨wF.heap.size, x, none⟩) hw3 (.int .i64 x)
                    go_wp2
                    go_roundw
                    case rel => exact ⟨k + 1, _, by omega, by go_num, hJ', hb2, e1'', e2'', hB''⟩
                    case measure => simp [intOf]; omega
                  · have hb2 := hb'.set x (.int .i64 y)
                    rw [ints_set] at hb2
                    rw [Nat.max_eq_left (Nat.le_of_lt hxy), Nat.min_eq_right (Nat.le_of_lt hxy)] at hJ'
                    have hxy' : (y : Int) < (x : Int) := by omega
                    have e1'' := e1'.setCell_ne (p := ⟨wF.heap.size, x, none⟩) hw1 (.int .i64 y)
                    have e2'' := e2'.setCell_ne (p := ⟨wF.heap.size, x, none⟩) hw2 (.int .i64 y)
                    have hB'' := hB'.setCell (p := ⟨wF.heap.size, x, none⟩) hw3 (.int .i64 y)
                    go_wp2
                    go_roundw
                    case rel => exact ⟨k + 1, _, by omega, by go_num, hJ', hb2, e1'', e2'', hB''⟩
                    case measure => simp [intOf]; omega
              · have jq' : joinsB N ws q = false := by simpa using jq
                have hst : groupsTo N ws ls (k + 1) = groupsTo N ws ls k := by rw [groupsTo_succ N ws ls k hlt, ← Hpq.out]; simp [joinStep, jq']
                rw [← hst] at hrep
                clear hst jq
                go_wp2_with (go_at_call 38; refine (joins_any _ N w.heap.size (w.heap.size + 1) _ ws _ (e1.alloc _) (e2.alloc _) ((hw.new hB2).alloc _)).mono ?_; rintro e w' ⟨rfl, rfl⟩)
                go_roundw
                case rel => exact ⟨k + 1, xs, by omega, by go_num, hrep, hFk.alloc _, e1.alloc _, e2.alloc _, hB2.alloc hB2.size _⟩
                case measure => simp [intOf]; omega
            · have jp' : joinsB N ws p = false := by simpa using jp
              have hst : groupsTo N ws ls (k + 1) = groupsTo N ws ls k := by rw [groupsTo_succ N ws ls k hlt, ← Hpq.out]; simp [joinStep, jp']
              rw [← hst] at hrep
              clear hst jp
              go_wp2_with (go_at_call 38; refine (joins_any _ N w.heap.size (w.heap.size + 1) _ ws _ (e1.alloc _) (e2.alloc _) ((hw.new hB2).alloc _)).mono ?_; rintro e w' ⟨rfl, rfl⟩)
              go_roundw
              case rel => exact ⟨k + 1, xs, by omega, by go_num, hrep, hFk.alloc _, e1.alloc _, e2.alloc _, hB2.alloc hB2.size _⟩
              case measure => simp [intOf]; omega
          · obtain rfl : ls.length = k := by omega
            rw [groupsTo_all] at hrep
            have f1 := e1.cell 0
            simp only [List.getElem?_cons_zero] at f1
            have hsz := hB2.size
            obtain ⟨wO, hwO⟩ : ∃ wO : World, wO = wr := ⟨_, rfl⟩
            subst hwO
            go_wp2_with (at_make; refine wpList_make_full _ rfl _ _ 26 rfl w.heap.size 3 i0 (.int .i64 0) 1 Try.underlying26 hi hz0 hz1 .i64 .i64 _ _ N rfl rfl rfl rfl (by rw [hz2]; omega) (by unfold maxLen; omega) hsz ?_; intro w2 hown2 hg2)
            have hO := own_blk hown2
            rw [made_ints] at hO
            have hFlt := hFk.lt
            have hF2 := hFk.grown hg2 (by simp)
            have hB3 := hB2.grown hg2 hsz (by simp)
            have hgl : (groupsN N ws ls).length = N := hrep.2.1
            have Hgl := Lib.hid hgl
            clear hgl hown2 hg2 f1 e1 e2
            go_loopw [15, 71] (fun _ i wr => ∃ (k : Nat) (xs : List Int), k ≤ N ∧ i = .int .i64 k ∧ Rep xs N (groupsN N ws ls) ∧ Blk wr wF.heap.size 3 (ints xs) ∧ Blk wr wO.heap.size 3 (ints (outTo (groupsN N ws ls) N k)) ∧ Below w.heap.size w wr) (fun _ i _ => N - (intOf i).toNat)
            case atStart => exact ⟨0, xs, Nat.zero_le _, rfl, hrep, hF2, hO, hB3⟩
            case round =>
              clear hrep
              obtain ⟨k, xs, hk, rfl, hrep, hFk, hOk, hB2⟩ := hrel
              by_cases hlt : k < N
              · have hR1 := Lib.hid hrep.1
                have hR2 := hrep.2.2.1
                have hR3 := Lib.hid (hrep.2.2.2 k hlt)
                have hneq : ¬ wO.heap.size = wF.heap.size := by omega
                go_wp2_with (go_at_call 39; refine (root_any _ _ _ xs _ hR1.out hlt hR2 hFk).mono ?_; rintro e w3 ⟨xs3, rfl, hl3, hf3, hb3, hm3, hr3⟩; have hO3 := hOk.mod hm3 hneq; have fO := hO3.frozen k; have cO := outcell hO3 Hgl.out hlt)
                have hO4 := hO3.set k (.int .i64 ((groupsN N ws ls)[k]?.getD 0))
                rw [ints_set, outTo_succ _ _ _ Hgl.out hlt] at hO4
                have hB4 := (hB2.trans (hm3.below hB2.size (by intro k hk e; omega))).setCell (p := ⟨wO.heap.size, k, none⟩) (by omega) (.int .i64 ((groupsN N ws ls)[k]?.getD 0))
                go_roundw
                case rel =>
                  rw [hR3.out]
                  exact ⟨k + 1, xs3, by omega, by go_num, hrep.same hl3 hf3 hr3, hb3.setCell_ne (p := ⟨wO.heap.size, k, none⟩) (fun e => hneq e.symm) _, hO4, hB4⟩
                case measure => simp [intOf]; omega
              · obtain rfl : N = k := by omega
                rw [outTo_all _ _ Hgl.out] at hOk
                go_wp2
                go_ret
                exact ⟨_, rfl, ownsRow_blk hOk (by simp [ints, Hgl.out]) (by unfold maxLen; omega) (by omega), hB2⟩
end Go.Proofs.Ytafljpfephomoaa
