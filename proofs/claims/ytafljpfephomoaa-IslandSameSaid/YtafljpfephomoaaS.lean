/- IslandSame: the walk. -/
import Derived.Test.YtafljpfephomoaaC
import Derived.Test.YtafljpfephomoaaR
import Derived.Deep.DeepCutAuto
import Derived.Deep.CutBlock
namespace Go.Proofs.Ytafljpfephomoaa
open Go.RowKit
theorem twice_len (l : List (Int × Int)) : (twice l).length = 2 * l.length := by
  unfold twice
  induction l with
  | nil => rfl
  | cons p l ih => rw [List.flatMap_cons, List.length_append, ih]; simp; omega
theorem twice_snoc (l : List (Int × Int)) (p : Int × Int) : twice (l ++ [p]) = twice l ++ [(p.2, p.1), p] := by simp [twice]
theorem rev_take {L : List (Int × Int)} {j idx : Nat} (h : idx + 1 + j = L.length) : L.reverse.take (j + 1) = L.reverse.take j ++ [L[idx]?.getD (0, 0)] := by
  rw [List.take_succ_eq_append_getElem (by simp; omega), List.getElem_reverse]
  rw [List.getElem?_eq_getElem (by omega)]
  congr 3
  omega

set_option maxRecDepth 100000 in
set_option maxHeartbeats 8000000 in
theorem same_any (n : Int) (lv wv : Value) (nl nw : Nat) (ls : List (Int × Int)) (ws : List Bool) (hnl : ls.length = nl) (hnw : ws.length = nw) (w : World) (hn : In64 n) (hls : ∀ p ∈ ls, In64 p.1 ∧ In64 p.2) (hl : Rd w lv nl 2 (pairCells ls)) (hw : Rd w wv nw 1 (bools ws)) :
    Calls Try.prog 6 #[.int .i64 n, lv, wv] w fun e w' => e = .returned (.bool true) ∧ Below w.heap.size w w' := by
  obtain ⟨la, lc, rfl, _, l2, l3, l4⟩ := hl
  obtain ⟨wa, wc0, rfl, hwc1, hwc2⟩ := hw.shape
  obtain ⟨n1, n2⟩ := hn
  have Hnl := Lib.hid hnl
  have Hnw := Lib.hid hnw
  have Hls := Lib.hid hls
  have hr0 := pickN_range (c := n) (n := 50) (by omega)
  obtain ⟨m, hm⟩ : ∃ m : Nat, pickN n 50 = (m : Int) := ⟨(pickN n 50).toNat, by omega⟩
  have Hm := Lib.hid hm
  have hm2 : m < 50 := by omega
  clear hnl hnw hls hm hr0
  obtain ⟨i0, hi, hz0, hz1, hz2⟩ := info_parts info25
  go_enter Try.func6, Try.ntmps6
  go_wp2_with fail
  refine (awake_any _).mono ?_
  rintro e w0 ⟨rfl, B0⟩
  go_wp2_with fail
  refine (pick_any _ _ _ n1 n2 (by omega) (by omega)).mono ?_
  rintro e w0 ⟨rfl, rfl⟩
  rw [Hm.out]
  go_upto_block 0 with (fail)
  go_cut [8] (fun v wx => ∃ k : Nat, k ≤ nl ∧ k ≤ 100 ∧ wx.ownsRow w.heap.size 25 2 v k (pairCells (picked (1 + m) ls k)) ∧ Below w.heap.size w wx)
  case first =>
    go_wp2_with fail
    go_loopw [8, 10, 11, 12] (fun v i _ _ wr => ∃ k : Nat, k ≤ nl ∧ k ≤ 100 ∧ i = .int .i64 k ∧ wr.ownsRow w.heap.size 25 2 v k (pairCells (picked (1 + m) ls k)) ∧ Below w.heap.size w wr) (fun _ i _ _ _ => 100 - (intOf i).toNat)
    case atStart => exact ⟨0, Nat.zero_le _, Nat.zero_le _, rfl, World.ownsRow_nil _ _ _ _, B0⟩
    case round => as_aux_lemma =>
      clear B0
      obtain ⟨k, hk, hk2, rfl, hown, hB⟩ := hrel
      rcases (show (k < nl ∧ k < 100) ∨ ¬ k < nl ∨ (k < nl ∧ ¬ k < 100) by omega) with ⟨hlt, hlt2⟩ | hlt | ⟨hlt, hlt2⟩
      · obtain ⟨lb, lo, rfl, hlb, hlc⟩ := l4 (by omega)
        obtain ⟨⟨p, q⟩, hpq⟩ : ∃ pq, pq = ls[k]?.getD (0, 0) := ⟨_, rfl⟩
        have hkl : k < ls.length := by have := Hnl.out; omega
        have g0 : wr.cell? ⟨lb, lo + k * 2, none⟩ = some (.int .i64 p) := by
          rw [hB.cell (by exact hlb), hlc _ (by omega), pair0 hkl, ← hpq]
        have g1 : wr.cell? ⟨lb, lo + k * 2 + 1, none⟩ = some (.int .i64 q) := by
          rw [hB.cell (by exact hlb), Nat.add_assoc, hlc _ (by omega), pair1 hkl, ← hpq]
        have hin := Hls.out (p, q) (by rw [hpq, List.getElem?_eq_getElem hkl]; exact List.getElem_mem hkl)
        obtain ⟨⟨p1, p2⟩, q1, q2⟩ := hin
        have hsucc := Lib.hid (picked_succ (1 + m) ls k hkl)
        have Hpq := Lib.hid hpq
        have hsz := hB.size
        clear hpq hlc
        go_wp2_with fail
        refine (pick_any _ _ _ p1 p2 (by omega) (by omega)).mono ?_
        rintro e w' ⟨rfl, rfl⟩
        go_wp2_with fail
        refine (pick_any _ _ _ q1 q2 (by omega) (by omega)).mono ?_
        rintro e w' ⟨rfl, rfl⟩
        go_wp2_with (at_builtin; refine wpList_append_own _ rfl _ _ 22 rfl w.heap.size 25 i0 (.agg #[.int .i64 0, .int .i64 0]) 2 16 Try.underlying22 hi hz0 hz1 hz2 rfl (by decide) _ _ _ rfl (hown.alloc _) ⟨wr.heap.size, 0, none⟩ 1 1 [.int .i64 (pickN p (1 + m)), .int .i64 (pickN q (1 + m))] rfl rfl (World.news_of_block (cs := #[.int .i64 (pickN p (1 + m)), .int .i64 (pickN q (1 + m))]) (t := 25) (fr := (0, 0)) (heap_alloc_new wr _)) (by simp [Value.oneCell']) (by unfold maxLen; omega) (by omega) (by simp; omega) ?_; intro v' w1 hown1 hgrow _)
        have hB2 := (hB.alloc hsz (.cells #[.int .i64 (pickN p (1 + m)), .int .i64 (pickN q (1 + m))] 25)).grown hgrow (by simp; omega) (fun r hr => ownBlock_ge hown hr)
        have hown2 : w1.ownsRow w.heap.size 25 2 v' (k + 1) (pairCells (picked (1 + m) ls (k + 1))) := by
          rw [hsucc.out, pairCells_append, ← Hpq.out]; exact hown1
        clear hown1 hgrow hown
        go_roundw
        case rel => exact ⟨k + 1, by omega, by omega, by go_num, hown2, hB2⟩
        case measure => simp [intOf]; omega
      all_goals
        go_wp2_with fail
        go_meet
        exact ⟨k, hk, hk2, hown, hB⟩
  case rest =>
      obtain ⟨k, hk, hk2, hown, hB⟩ := hcut
      clear B0
      obtain ⟨L, hL⟩ : ∃ L, L = picked (1 + m) ls k := ⟨_, rfl⟩
      have hLl : L.length = k := by rw [hL]; exact picked_len _ _ _ (by have := Hnl.out; omega)
      rw [← hL] at hown
      have hLin : ∀ pq ∈ L, (0 ≤ pq.1 ∧ pq.1 < 1 + (m : Int)) ∧ 0 ≤ pq.2 ∧ pq.2 < 1 + (m : Int) := by
        intro pq hpq
        rw [hL] at hpq
        unfold picked at hpq
        obtain ⟨r, _, rfl⟩ := List.mem_map.1 hpq
        exact ⟨pickN_range (by omega), pickN_range (by omega)⟩
      have HLin := Lib.hid hLin
      clear hL hLin
      have HLl := Lib.hid hLl
      clear hLl
      obtain ⟨sa, sc, rfl, hsc1, hsc2⟩ := (Rd.of_own hown).shape
      obtain ⟨wL, hwL⟩ : ∃ x : World, x = wc := ⟨_, rfl⟩
      subst hwL
      have hLr := Rd.of_own hown
      have hsz := hB.size
      go_wp2_with fail
      go_loopw [9, 13] (fun v i wr => ∃ j : Nat, j ≤ k ∧ i = .int .i64 ((k : Int) - 1 - j) ∧ wr.ownsRow wL.heap.size 25 2 v (2 * j) (pairCells (twice (L.reverse.take j))) ∧ Below wL.heap.size wL wr) (fun _ i _ => (intOf i + 1).toNat)
      case atStart => exact ⟨0, Nat.zero_le _, by congr 1; omega, World.ownsRow_nil _ _ _ _, Below.refl _ _⟩
      case round => as_aux_lemma =>
        obtain ⟨j, hj, rfl, hownM, hBM⟩ := hrel
        by_cases hjk : j < k
        · obtain ⟨idx, hidx⟩ : ∃ idx, idx + 1 + j = k := ⟨k - 1 - j, by omega⟩
          rw [show (k : Int) - 1 - j = (idx : Int) by omega]
          obtain ⟨sb, so, rfl⟩ := hLr.addr (by omega)
          obtain ⟨⟨p, q⟩, hpq⟩ : ∃ pq, pq = L[idx]?.getD (0, 0) := ⟨_, rfl⟩
          have hiL : idx < L.length := by have := HLl.out; omega
          have g0' : wL.cell? ⟨sb, so + idx * 2, none⟩ = some (.int .i64 p) := by
            rw [hLr.at (by omega), pair0 hiL, ← hpq]
          have g1' : wL.cell? ⟨sb, so + (idx * 2 + 1), none⟩ = some (.int .i64 q) := by
            rw [hLr.at (by omega), pair1 hiL, ← hpq]
          have hsb : sb < wL.heap.size := World.block_lt_of_cell? wL _ g0'
          have g0 : wr.cell? ⟨sb, so + idx * 2, none⟩ = some (.int .i64 p) := (hBM.cell (by exact hsb)).trans g0'
          have g1 : wr.cell? ⟨sb, so + idx * 2 + 1, none⟩ = some (.int .i64 q) := by rw [Nat.add_assoc]; exact (hBM.cell (by exact hsb)).trans g1'
          have hrt := rev_take (L := L) (j := j) (idx := idx) (by have := HLl.out; omega)
          rw [← hpq] at hrt
          have Hrt := Lib.hid hrt
          have hszM := hBM.size
          have hnb : ∀ r, r < wL.heap.size → Value.ownBlock _ ≠ some r := fun r hr e => absurd (ownBlock_ge hownM e) (by omega)
          have Hidx := Lib.hid hidx
          have hi0 : (0 : Int) ≤ (idx : Int) := by omega
          have hi1 : (idx : Int) < (k : Int) := by omega
          clear hpq g0' g1' hrt hidx
          go_wp2_with fail
          go_region_held3 (fun wx => wx.cell? ⟨sb, so + idx * 2, none⟩ = some (.int .i64 p) ∧ wx.cell? ⟨sb, so + idx * 2 + 1, none⟩ = some (.int .i64 q))
            (first
              | go_keep
              | (go_split_ands
                 refine ⟨?_, ?_⟩
                 · (rw [hgrow.cell_far _ (by simp; omega) (Ne.symm (hnb sb hsb))]; assumption)
                 · (rw [hgrow.cell_far _ (by simp; omega) (Ne.symm (hnb sb hsb))]; assumption)))
            ((refine step_append_lies _ (by rfl) _ _ _ (by rfl) wL.heap.size 25 i0 _ 2 16 Try.underlying22 hi hz0 hz1 hz2 rfl (by omega) _ (2 * j) (pairCells (twice (L.reverse.take j))) (by rfl) ((hownM.alloc _).drew) ⟨wr.heap.size, 0, none⟩ 2 2 [.int .i64 q, .int .i64 p, .int .i64 p, .int .i64 q] (by rfl) (by rfl) (World.news_of_block (cs := #[.int .i64 q, .int .i64 p, .int .i64 p, .int .i64 q]) (t := 25) (fr := (0, 0)) (heap_alloc_new wr _)) (by simp [Value.oneCell']) (by omega) (by unfold maxLen; omega) (by omega) (by simp; omega) (wr.heap.size + 1) (by simp) ?_; intro gg cap w1 hown1 hgrow hat hlt1))
          have hB2 := (hBM.alloc hszM (.cells #[.int .i64 q, .int .i64 p, .int .i64 p, .int .i64 q] 25)).drew.grown hgrow (by simp; omega) (fun r hr => ownBlock_ge hownM hr)
          have hown2 : w1.ownsRow wL.heap.size 25 2 (.slice (some ⟨gg, 0, none⟩) (2 * j + 2) cap) (2 * (j + 1)) (pairCells (twice (L.reverse.take (j + 1)))) := by
            rw [Hrt.out, twice_snoc, pairCells_append]; exact hown1
          clear hown1 hgrow hownM
          go_wp2
          go_roundw
          case rel => exact ⟨j + 1, by omega, by first | (congr 1; have := Hidx.out; omega) | rfl | (congr 1), hown2, hB2⟩
          case measure => simp [intOf] <;> omega
        · obtain rfl : k = j := by omega
          rw [List.take_of_length_le (by simp; have := HLl.out; omega)] at hownM
          obtain ⟨ma, mc, rfl, hmc1, hmc2⟩ := (Rd.of_own hownM).shape
          have hMr := Rd.of_own hownM
          have hLr2 := hLr.new hBM
          have hBW := hB.trans (hBM.mono hB.size)
          have hwR := hw.new hBW
          have hTL : (twice L.reverse).length = 2 * k := by rw [twice_len, List.length_reverse, HLl.out]
          have HTL := Lib.hid hTL
          clear hownM hBM hTL
          go_wp2_with fail
          refine (groups_at (1 + m) _ _ L ws k nw HLl.out Hnw.out (m + 1) (by omega) _ hLr2 hwR (by omega)).mono ?_
          rintro e w2 ⟨gv, rfl, og, hB2⟩
          obtain ⟨gg, gc, rfl⟩ := ownsRow_succ og
          have hgr := Rd.of_own og
          have hMr2 := hMr.new hB2
          have hwR2 := hwR.new hB2
          have hLr3 := hLr2.new hB2
          have hBW2 := hBW.trans (hB2.mono hBW.size)
          have hlen : (((m + 1 : Nat) : Int) != (1 + (m : Int))) = false := by rw [bne_eq_false_iff_eq]; omega
          have hlen2 : ((m : Int) + 1 != 1 + (m : Int)) = false := by rw [bne_eq_false_iff_eq]; omega
          clear og hB2 hwR hLr2 hMr
          go_wp2_with fail
          refine (groups_at (1 + m) _ _ (twice L.reverse) ws (2 * k) nw HTL.out Hnw.out (m + 1) (by omega) _ hMr2 hwR2 (by omega)).mono ?_
          rintro e w3 ⟨hv, rfl, oh, hB3⟩
          rw [twice_same] at oh
          have hhr := Rd.of_own oh
          have hgr2 := hgr.new hB3
          have hwR3 := hwR2.new hB3
          have hLr4 := hLr3.new hB3
          have hBW3 := hBW2.trans (hB3.mono hBW2.size)
          clear oh hB3 hwR2 hLr3 hMr2 hgr
          have hCan := Canon.groups (m + 1) ws L
          obtain ⟨G, hG⟩ : ∃ G, G = groupsN (m + 1) ws L := ⟨_, rfl⟩
          rw [← hG] at hhr hgr2 hCan
          clear hG
          have hGl := Lib.hid hCan.len
          go_wp2_with fail
          refine (numbers_eq _ _ (m + 1) G hGl.out _ hgr2 hhr).mono ?_
          rintro e w4 ⟨rfl, j4, rfl⟩
          go_wp2_with fail
          have hgr3 := hgr2.drewN j4
          have hwR4 := hwR3.drewN j4
          have hLr5 := hLr4.drewN j4
          have hBW4 := Below.drewN' hBW3 j4
          obtain ⟨wS, hwS⟩ : ∃ x, x = w3.drewN j4 := ⟨_, rfl⟩
          rw [← hwS] at hgr3 hwR4 hLr5 hBW4 ⊢
          clear hwS hgr2 hwR3 hLr4 hBW3 hhr
          go_loopw [15, 16] (fun i _ wr => ∃ k' : Nat, k' ≤ m + 1 ∧ i = .int .i64 k' ∧ Below wS.heap.size wS wr) (fun i _ _ => m + 1 - (intOf i).toNat)
          case atStart => exact ⟨0, Nat.zero_le _, rfl, Below.refl _ _⟩
          case round => as_aux_lemma =>
            obtain ⟨i, hik, rfl, hBS⟩ := hrel
            by_cases hlti : i < m + 1
            · have hgR := hgr3.new hBS
              have hwR := hwR4.new hBS
              obtain ⟨x, hx⟩ : ∃ x : Nat, G[i]?.getD 0 = (x : Int) := ⟨(G[i]?.getD 0).toNat, by have := hCan.lo i hlti; omega⟩
              have hxi : x ≤ i := by have := hCan.hi i hlti; omega
              have cgi := hgR.int hGl.out hlti
              rw [hx, Nat.zero_add] at cgi
              have cgx := hgR.int hGl.out (i := x) (by omega)
              have hid := hCan.idem hlti
              rw [hx, Int.toNat_natCast] at hid
              rw [hid, Nat.zero_add] at cgx
              have Hx := Lib.hid hx
              have z1 : decide (i < x) = false := decide_eq_false (by omega)
              have z2 : decide ((x : Int) < 0) = false := decide_eq_false (by omega)
              have y1 : (i : Int) < 1 + (m : Int) := by omega
              clear hid hx
              by_cases hiw : i < nw
              · obtain ⟨wb, wo, rfl⟩ := hwR.addr (by omega)
                have cw := hwR.bool Hnw.out hiw
                obtain ⟨wi, hwi⟩ : ∃ wi, wi = ws[i]?.getD false := ⟨_, rfl⟩
                rw [← hwi] at cw
                cases wi with
                | true =>
                  have hwall := hCan.wall (i := i) hlti (by have := Hnw.out; omega) hwi.symm
                  obtain ⟨hself, hmem⟩ := hwall
                  rw [Hx.out] at hself
                  obtain rfl : x = i := by omega
                  have Hmem := Lib.hid hmem
                  clear hmem hself hwi
                  have hgm : gg < wr.heap.size := World.block_lt_of_cell? wr _ cgi
                  have hbz := hBS.size
                  have y2 : (0 : Int) ≤ (x : Int) := by omega
                  have y3 : (x : Int) < ((m + 1 : Nat) : Int) := by omega
                  have y4 : (x : Int) < (m : Int) + 1 := by omega
                  go_wp2_with fail
                  go_region_held3 (fun wx => wx.cell? ⟨gg, x, none⟩ = some (.int .i64 x))
                    (first | go_keep | exact (hBm.cell (p := ⟨gg, x, none⟩) hgm).trans cgi)
                    (first | (go_at_call 25; refine (members_any _ (m + 1) G hGl.out _ _ hgR.drew (by omega)).mono ?_; rintro e wm ⟨mv, rfl, hM, hBm⟩; rw [Hmem.out] at hM; obtain ⟨mva, mvc, rfl, _, _⟩ := hM.1.shape))
                  go_wp2_with fail
                  go_roundw
                  case rel => exact ⟨x + 1, by omega, by go_num, hBS.drew.trans (hBm.mono hbz)⟩
                  case measure => simp [intOf]; omega
                | false =>
                  clear hwi
                  as_aux_lemma =>
                    go_wp2_with fail
                    go_quiet (fail)
                    go_wp2_with fail
                    go_roundw
                    case rel => exact ⟨i + 1, by omega, by go_num, Below.drewN' hBS _⟩
                    case measure => simp [intOf]; omega
              · have hiw' : ¬ (i : Int) < (nw : Int) := by omega
                as_aux_lemma =>
                  go_wp2_with fail
                  go_quiet (fail)
                  go_wp2_with fail
                  go_roundw
                  case rel => exact ⟨i + 1, by omega, by go_num, Below.drewN' hBS _⟩
                  case measure => simp [intOf]; omega
            · have hgX := hgr3.new hBS
              have hwX := hwR4.new hBS
              have hLX := hLr5.new hBS
              have hBX := hBW4.trans (hBS.mono hBW4.size)
              obtain ⟨wX, hwX'⟩ : ∃ x, x = wr := ⟨_, rfl⟩
              subst hwX'
              clear hBS
              go_wp2_with fail
              go_loopw [17, 18, 19, 20] (fun i _ _ _ wr => ∃ i4 jd : Nat, i4 ≤ k ∧ i = .int .i64 i4 ∧ wr = wX.drewN jd) (fun i _ _ _ _ => k - (intOf i).toNat)
              case atStart => exact ⟨0, 0, Nat.zero_le _, rfl, rfl⟩
              case round => as_aux_lemma =>
                obtain ⟨i4, jd, hi4, rfl, rfl⟩ := hrel
                by_cases hlt4 : i4 < k
                · obtain ⟨sb, so, rfl⟩ := hLX.addr (by omega)
                  obtain ⟨⟨p, q⟩, hpq⟩ : ∃ pq, pq = L[i4]?.getD (0, 0) := ⟨_, rfl⟩
                  have hiL : i4 < L.length := by have := HLl.out; omega
                  have g0 : wX.cell? ⟨sb, so + i4 * 2, none⟩ = some (.int .i64 p) := by
                    rw [hLX.at (by omega), pair0 hiL, ← hpq]
                  have g1 : wX.cell? ⟨sb, so + i4 * 2 + 1, none⟩ = some (.int .i64 q) := by
                    rw [Nat.add_assoc, hLX.at (by omega), pair1 hiL, ← hpq]
                  have hmem : (p, q) ∈ L := by rw [hpq, List.getElem?_eq_getElem hiL]; exact List.getElem_mem hiL
                  obtain ⟨⟨p1, p2⟩, q1, q2⟩ := HLin.out _ hmem
                  simp only at p1 p2 q1 q2
                  obtain ⟨p, rfl⟩ := Int.eq_ofNat_of_zero_le p1
                  obtain ⟨q, rfl⟩ := Int.eq_ofNat_of_zero_le q1
                  have cp := hgX.int hGl.out (i := p) (by omega)
                  have cq := hgX.int hGl.out (i := q) (by omega)
                  rw [Nat.zero_add] at cp cq
                  have hjp : ¬ (p < nw ∧ ws[p]?.getD false = true) → joinsB ((m + 1 : Nat) : Int) ws (p : Int) = true := by
                    intro h
                    have := Hnw.out
                    simp only [joinsB, Int.toNat_natCast, Bool.and_eq_true, Bool.or_eq_true, decide_eq_true_eq, Bool.not_eq_true']
                    refine ⟨⟨by omega, by omega⟩, ?_⟩
                    rcases Nat.lt_or_ge p nw with h1 | h1
                    · right
                      cases hc : ws[p]?.getD false with
                      | true => exact (h ⟨h1, hc⟩).elim
                      | false => rfl
                    · left; omega
                  have hjq : ¬ (q < nw ∧ ws[q]?.getD false = true) → joinsB ((m + 1 : Nat) : Int) ws (q : Int) = true := by
                    intro h
                    have := Hnw.out
                    simp only [joinsB, Int.toNat_natCast, Bool.and_eq_true, Bool.or_eq_true, decide_eq_true_eq, Bool.not_eq_true']
                    refine ⟨⟨by omega, by omega⟩, ?_⟩
                    rcases Nat.lt_or_ge q nw with h1 | h1
                    · right
                      cases hc : ws[q]?.getD false with
                      | true => exact (h ⟨h1, hc⟩).elim
                      | false => rfl
                    · left; omega
                  have hcon : ¬ (p < nw ∧ ws[p]?.getD false = true) → ¬ (q < nw ∧ ws[q]?.getD false = true) → G[p]?.getD 0 = G[q]?.getD 0 := fun h1 h2 => by
                    have := hCan.const _ hmem (hjp h1) (hjq h2)
                    simpa using this
                  have k1 : (p : Int) < 1 + (m : Int) := by omega
                  have k2 : (q : Int) < 1 + (m : Int) := by omega
                  have Hcon := Lib.hid hcon
                  clear hpq hmem hjp hjq hcon
                  rcases Nat.lt_or_ge p nw with hpw | hpw
                  · obtain ⟨wb, wo, rfl⟩ := hwX.addr (by omega)
                    have cwp := hwX.bool Hnw.out hpw
                    obtain ⟨wp, hwp⟩ : ∃ wp, wp = ws[p]?.getD false := ⟨_, rfl⟩
                    rw [← hwp] at cwp
                    cases wp with
                    | true =>
                      clear hwp
                      as_aux_lemma =>
                        go_wp2_with fail
                        go_quiet (fail)
                        go_wp2_with fail
                        go_roundw
                        case rel => exact ⟨i4 + 1, _, by omega, by go_num, rfl⟩
                        case measure => simp [intOf]; omega
                    | false =>
                      have Hwp := Lib.hid hwp
                      clear hwp
                      rcases Nat.lt_or_ge q nw with hqw | hqw
                      · have cwq := hwX.bool Hnw.out hqw
                        obtain ⟨wq, hwq⟩ : ∃ wq, wq = ws[q]?.getD false := ⟨_, rfl⟩
                        rw [← hwq] at cwq
                        cases wq with
                        | true =>
                          clear hwq
                          as_aux_lemma =>
                            go_wp2_with fail
                            go_quiet (fail)
                            go_wp2_with fail
                            go_roundw
                            case rel => exact ⟨i4 + 1, _, by omega, by go_num, rfl⟩
                            case measure => simp [intOf]; omega
                        | false =>
                          rw [Hcon.out (fun h => by rw [← Hwp.out] at h; cases h.2) (fun h => by rw [← hwq] at h; cases h.2)] at cp
                          clear hwq
                          as_aux_lemma =>
                            go_wp2_with fail
                            go_quiet (fail)
                            go_wp2_with fail
                            go_roundw
                            case rel => exact ⟨i4 + 1, _, by omega, by go_num, rfl⟩
                            case measure => simp [intOf]; omega
                      · rw [Hcon.out (fun h => by rw [← Hwp.out] at h; cases h.2) (fun h => by omega)] at cp
                        as_aux_lemma =>
                          go_wp2_with fail
                          go_quiet (fail)
                          go_wp2_with fail
                          go_roundw
                          case rel => exact ⟨i4 + 1, _, by omega, by go_num, rfl⟩
                          case measure => simp [intOf]; omega
                  · rcases Nat.lt_or_ge q nw with hqw | hqw
                    · obtain ⟨wb, wo, rfl⟩ := hwX.addr (by omega)
                      have cwq := hwX.bool Hnw.out hqw
                      obtain ⟨wq, hwq⟩ : ∃ wq, wq = ws[q]?.getD false := ⟨_, rfl⟩
                      rw [← hwq] at cwq
                      cases wq with
                      | true =>
                        clear hwq
                        as_aux_lemma =>
                          go_wp2_with fail
                          go_quiet (fail)
                          go_wp2_with fail
                          go_roundw
                          case rel => exact ⟨i4 + 1, _, by omega, by go_num, rfl⟩
                          case measure => simp [intOf]; omega
                      | false =>
                        rw [Hcon.out (fun h => by omega) (fun h => by rw [← hwq] at h; cases h.2)] at cp
                        clear hwq
                        as_aux_lemma =>
                          go_wp2_with fail
                          go_quiet (fail)
                          go_wp2_with fail
                          go_roundw
                          case rel => exact ⟨i4 + 1, _, by omega, by go_num, rfl⟩
                          case measure => simp [intOf]; omega
                    · rw [Hcon.out (fun h => by omega) (fun h => by omega)] at cp
                      as_aux_lemma =>
                        go_wp2_with fail
                        go_quiet (fail)
                        go_wp2_with fail
                        go_roundw
                        case rel => exact ⟨i4 + 1, _, by omega, by go_num, rfl⟩
                        case measure => simp [intOf]; omega
                · go_wp2
                  go_ret
                  exact ⟨rfl, Below.drewN' hBX _⟩
end Go.Proofs.Ytafljpfephomoaa
