/- Trees: the reference's Pairs. -/
import Derived.Test.YtadfmhjnmmmalaaR2
import Derived.Test.YtadfmhjnmmmalaaQr
import Derived.Deep.AppendLies
import Derived.Deep.RegionHeld3
namespace Go.Proofs.Ytadfmhjnmmmalaa
open Go.RowKit Go.Maps
/-- The pairs of number i with those of numbers i+1 .. j-1. -/
def rowT (L : List Lf) (y : Lf) (i j : Nat) : List Pr := (((L.take j).drop (i + 1)).filter (fun x => meetB y.2 x.2)).map (fun x => (y.1, x.1))
theorem rowT_zero (L : List Lf) (y : Lf) (i : Nat) : rowT L y i (i + 1) = [] := by
  unfold rowT
  rw [List.drop_eq_nil_of_le (by rw [List.length_take]; omega)]
  rfl
theorem rowT_succ {L : List Lf} {y x : Lf} {i j : Nat} (hij : i < j) (hx : L[j]? = some x) : rowT L y i (j + 1) = rowT L y i j ++ (if meetB y.2 x.2 then [(y.1, x.1)] else []) := by
  unfold rowT
  have hj := (List.getElem?_eq_some_iff.1 hx).1
  rw [List.take_add_one, hx, List.drop_append_of_le_length (by rw [List.length_take]; omega), List.filter_append, List.map_append]
  by_cases h : meetB y.2 x.2 = true <;> simp [h]
theorem rowT_all {L : List Lf} (hL : Rises L) {y : Lf} {i : Nat} (hy : L[i]? = some y) : rowT L y i L.length = rowP L y := by
  obtain ⟨hlt, hy2⟩ := List.getElem?_eq_some_iff.1 hy
  have hsp : L = L.take i ++ y :: L.drop (i + 1) := by
    conv => lhs; rw [← List.take_append_drop i L, List.drop_eq_getElem_cons hlt, hy2]
  have hp : Rises (L.take i ++ y :: L.drop (i + 1)) := by rw [← hsp]; exact hL
  have h1 := List.pairwise_append.1 hp
  have h2 := List.pairwise_cons.1 h1.2.1
  have hA : ∀ z ∈ L.take i, z.1 < y.1 := fun z hz => h1.2.2 z hz y (by simp)
  have hC : ∀ z ∈ L.drop (i + 1), y.1 < z.1 := fun z hz => h2.1 z hz
  have hall : rowP L y = ((L.filter (fun x => meetB x.2 y.2 && decide (y.1 < x.1))).map (fun x => (y.1, x.1))) := by
    unfold rowP foundL
    rw [List.filter_map, List.map_map, List.filter_filter]
    have e : (fun a : Lf => (decide (y.1 < a.1) && meetB a.2 y.2)) = (fun a : Lf => (meetB a.2 y.2 && decide (y.1 < a.1))) := funext fun a => Bool.and_comm _ _
    simp only [Function.comp_def, e]
  rw [hall]
  unfold rowT
  rw [List.take_length]
  congr 1
  conv => rhs; rw [hsp]
  have e1 : (L.take i).filter (fun x => meetB x.2 y.2 && decide (y.1 < x.1)) = [] := List.filter_eq_nil_iff.2 (fun z hz => by have := hA z hz; simp; omega)
  rw [List.filter_append, e1, List.nil_append, List.filter_cons_of_neg (by simp)]
  refine List.filter_congr fun z hz => ?_
  have := hC z hz
  rw [meet_comm z.2 y.2, decide_eq_true this, Bool.and_true]
theorem rowT_len (L : List Lf) (y : Lf) (i j : Nat) : (rowT L y i j).length ≤ L.length := by
  unfold rowT
  rw [List.length_map]
  exact Nat.le_trans (List.length_filter_le _ _) (by rw [List.length_drop, List.length_take]; omega)
set_option maxRecDepth 100000 in
set_option maxHeartbeats 2000000 in
theorem pairs29_any (q : Nat) (v : Value) (room : Nat) (L : List Lf) (hL : Rises L) (w : World) (hR : Ref w q v room L) (hLen : L.length ≤ 1024) :
    Calls Try.prog 29 #[.pointer (some ⟨q, 0, none⟩)] w fun e w' => ∃ v, e = .returned v ∧ Rd w' v (pairsL L).length 2 (pairCells (pairsL L)) ∧ Below w.heap.size w w' := by
  obtain ⟨a, c, rfl, h1, h2⟩ := hR.shape
  obtain ⟨N, hN⟩ : ∃ N, N = L.length := ⟨_, rfl⟩
  have hN24 : N ≤ 1024 := by omega
  have hrf : ∀ W, Below w.heap.size w W → W.cell? ⟨q, 0, none⟩ = some (.slice a N c) := fun W hW => by
    have h3 := (hR.1.below hW hR.1.lt).cell 0
    simp only [List.getElem?_cons_zero] at h3
    rw [← hN] at h3
    exact h3
  have hown : ∀ W, Below w.heap.size w W → W.ownsRow 0 88 7 (.slice a N c) N (lfCells L) := fun W hW => by
    have h3 := own_new hR.2 hW
    rw [← hN] at h3
    exact h3
  have HL := Lib.hid hL
  have HN := Lib.hid hN
  have HRf := Lib.hid hrf
  have Hown := Lib.hid hown
  rw [← hN] at h1
  clear hLen hN hR hrf hown hL
  obtain ⟨i1, hi, hz0, hz1, hz2⟩ := info_parts info51
  go_enter Try.func29, Try.ntmps29
  go_wp2_with fail
  go_loopw [3, 4] (fun v i wr => ∃ k : Nat, k ≤ N ∧ i = .int .i64 (k : Int) ∧ wr.ownsRow w.heap.size 51 2 v (outTo L k).length (pairCells (outTo L k)) ∧ Below w.heap.size w wr) (fun _ i _ => N - (intOf i).toNat)
  case atStart => exact ⟨0, Nat.zero_le _, rfl, World.ownsRow_nil _ _ _ _, Below.refl _ _⟩
  case round =>
    obtain ⟨k, hk, rfl, hop, hB⟩ := hrel
    have r0 := HRf.out wr hB
    by_cases hkN : k < N
    · obtain ⟨y, hy⟩ : ∃ y, L[k]? = some y := ⟨_, List.getElem?_eq_getElem (by rw [← HN.out]; exact hkN)⟩
      obtain ⟨g, gc, e0⟩ := own_addr (Hown.out w (Below.refl _ _)) (by omega)
      obtain ⟨rfl, -⟩ : a = some ⟨g, 0, none⟩ ∧ True := by cases e0; exact ⟨rfl, trivial⟩
      have hkI : (k : Int) < (N : Int) := by omega
      have HLf : Hid (∀ W, Below w.heap.size w W → ∀ (j : Nat) (x : Lf), j < N → L[j]? = some x → W.cell? ⟨g, j * 7, none⟩ = some (.int .i64 x.1) ∧ W.cell? ⟨g, j * 7 + 1, none⟩ = some (.int .i64 x.2.x0) ∧ W.cell? ⟨g, j * 7 + 1 + 1, none⟩ = some (.int .i64 x.2.y0) ∧ W.cell? ⟨g, j * 7 + 1 + 2, none⟩ = some (.int .i64 x.2.z0) ∧ W.cell? ⟨g, j * 7 + 1 + 3, none⟩ = some (.int .i64 x.2.x1) ∧ W.cell? ⟨g, j * 7 + 1 + 4, none⟩ = some (.int .i64 x.2.y1) ∧ W.cell? ⟨g, j * 7 + 1 + 5, none⟩ = some (.int .i64 x.2.z1)) := Lib.hid fun W hW j x hj hx => own_leaf (Hown.out W hW) hj hx
      have Hy := Lib.hid hy
      have hop0 : wr.ownsRow w.heap.size 51 2 u3 (outTo L k ++ rowT L y k (k + 1)).length (pairCells (outTo L k ++ rowT L y k (k + 1))) := by rw [rowT_zero, List.append_nil]; exact hop
      clear e0 hy hop
      go_wp2_with fail
      go_loopw [3, 5] (fun v i wr => ∃ j : Nat, k < j ∧ j ≤ N ∧ i = .int .i64 (j : Int) ∧ wr.ownsRow w.heap.size 51 2 v (outTo L k ++ rowT L y k j).length (pairCells (outTo L k ++ rowT L y k j)) ∧ Below w.heap.size w wr) (fun _ i _ => N - (intOf i).toNat)
      case atStart => exact ⟨k + 1, by omega, by omega, by go_num, hop0, hB⟩
      case round =>
        clear hop0 hB r0
        obtain ⟨j, hkj, hj, rfl, hoq, hBq⟩ := hrel
        have r0 := HRf.out wr hBq
        have hsq := hBq.size
        by_cases hjN : j < N
        · obtain ⟨x, hx⟩ : ∃ x, L[j]? = some x := ⟨_, List.getElem?_eq_getElem (by rw [← HN.out]; exact hjN)⟩
          have hjI : (j : Int) < (N : Int) := by omega
          have Hx := Lib.hid hx
          clear hx
          go_wp2_with fail
          have R0 : ∀ u : After wr, u.W.cell? ⟨q, 0, none⟩ = some (.slice (some ⟨g, 0, none⟩) N c) := fun u => HRf.out u.W (hBq.trans (u.h.mono hsq))
          have p0 : ∀ u : After wr, u.W.cell? ⟨g, k * 7 + 1, none⟩ = some (.int .i64 y.2.x0) := fun u => (HLf.out u.W (hBq.trans (u.h.mono hsq)) _ _ hkN Hy.out).2.1
          have p1 : ∀ u : After wr, u.W.cell? ⟨g, k * 7 + 1 + 1, none⟩ = some (.int .i64 y.2.y0) := fun u => (HLf.out u.W (hBq.trans (u.h.mono hsq)) _ _ hkN Hy.out).2.2.1
          have p2 : ∀ u : After wr, u.W.cell? ⟨g, k * 7 + 1 + 2, none⟩ = some (.int .i64 y.2.z0) := fun u => (HLf.out u.W (hBq.trans (u.h.mono hsq)) _ _ hkN Hy.out).2.2.2.1
          have p3 : ∀ u : After wr, u.W.cell? ⟨g, k * 7 + 1 + 3, none⟩ = some (.int .i64 y.2.x1) := fun u => (HLf.out u.W (hBq.trans (u.h.mono hsq)) _ _ hkN Hy.out).2.2.2.2.1
          have p4 : ∀ u : After wr, u.W.cell? ⟨g, k * 7 + 1 + 4, none⟩ = some (.int .i64 y.2.y1) := fun u => (HLf.out u.W (hBq.trans (u.h.mono hsq)) _ _ hkN Hy.out).2.2.2.2.2.1
          have p5 : ∀ u : After wr, u.W.cell? ⟨g, k * 7 + 1 + 5, none⟩ = some (.int .i64 y.2.z1) := fun u => (HLf.out u.W (hBq.trans (u.h.mono hsq)) _ _ hkN Hy.out).2.2.2.2.2.2
          have q0 : ∀ u : After wr, u.W.cell? ⟨g, j * 7 + 1, none⟩ = some (.int .i64 x.2.x0) := fun u => (HLf.out u.W (hBq.trans (u.h.mono hsq)) _ _ hjN Hx.out).2.1
          have q1 : ∀ u : After wr, u.W.cell? ⟨g, j * 7 + 1 + 1, none⟩ = some (.int .i64 x.2.y0) := fun u => (HLf.out u.W (hBq.trans (u.h.mono hsq)) _ _ hjN Hx.out).2.2.1
          have q2 : ∀ u : After wr, u.W.cell? ⟨g, j * 7 + 1 + 2, none⟩ = some (.int .i64 x.2.z0) := fun u => (HLf.out u.W (hBq.trans (u.h.mono hsq)) _ _ hjN Hx.out).2.2.2.1
          have q3 : ∀ u : After wr, u.W.cell? ⟨g, j * 7 + 1 + 3, none⟩ = some (.int .i64 x.2.x1) := fun u => (HLf.out u.W (hBq.trans (u.h.mono hsq)) _ _ hjN Hx.out).2.2.2.2.1
          have q4 : ∀ u : After wr, u.W.cell? ⟨g, j * 7 + 1 + 4, none⟩ = some (.int .i64 x.2.y1) := fun u => (HLf.out u.W (hBq.trans (u.h.mono hsq)) _ _ hjN Hx.out).2.2.2.2.2.1
          have q5 : ∀ u : After wr, u.W.cell? ⟨g, j * 7 + 1 + 5, none⟩ = some (.int .i64 x.2.z1) := fun u => (HLf.out u.W (hBq.trans (u.h.mono hsq)) _ _ hjN Hx.out).2.2.2.2.2.2
          refine wp_region_after (by kernel_rfl) (by kernel_rfl) ?_
          repeat (go_big_quiet_step ((go_at_call 42; exact calls_after _ (meet42_any y.2 x.2 _))))
          refine wpQuiet_nil ?_
          intro w9 hw9
          obtain ⟨u9, rfl⟩ := hw9
          have hB9 := hBq.trans (u9.h.mono hsq)
          have hs9 := hB9.size
          have ho9 := own_new hoq u9.h
          generalize u9.W = wn at *
          have r9 := HRf.out wn hB9
          have f0 := (HLf.out wn hB9 _ _ hkN Hy.out).1
          have f1 := (HLf.out wn hB9 _ _ hjN Hx.out).1
          have hsu := rowT_succ (y := y) hkj Hx.out
          clear R0 p0 p1 p2 p3 p4 p5 q0 q1 q2 q3 q4 q5 hoq hBq r0
          cases hm : meetB y.2 x.2
          · rw [hm] at hsu
            simp only [Bool.false_eq_true, if_false, List.append_nil] at hsu
            rw [← hsu] at ho9
            clear hsu hm
            go_wp2
            go_roundw
            case rel => exact ⟨j + 1, by omega, by omega, by go_num, ho9, hB9⟩
            case measure => simp [intOf]; omega
          · rw [hm] at hsu
            simp only [if_true] at hsu
            have hPb : (outTo L k ++ rowT L y k j).length ≤ 2000000 := by
              have g1 := out_len L k
              have g2 := rowT_len L y k j
              have g3 : k * L.length ≤ 1024 * 1024 := Nat.mul_le_mul (by omega) (by have := HN.out; omega)
              have := HN.out
              rw [List.length_append]
              omega
            obtain ⟨T, hT⟩ : ∃ T, T = (outTo L k ++ rowT L y k j).length := ⟨_, rfl⟩
            rw [← hT] at ho9 hPb
            have HT := Lib.hid hT
            have Hsu := Lib.hid hsu
            clear hsu hT hm
            go_wp2_with fail
            go_region_held3 (fun W => W.cell? ⟨q, 0, none⟩ = some (.slice (some ⟨g, 0, none⟩) N c) ∧ W.cell? ⟨g, k * 7, none⟩ = some (.int .i64 y.1) ∧ W.cell? ⟨g, j * 7, none⟩ = some (.int .i64 x.1))
              (first | go_keep | exact ⟨k0, k1, k2⟩)
              ((refine step_append_lies _ (by rfl) _ _ _ (by rfl) w.heap.size 51 i1 _ 2 16 Try.underlying36 hi hz0 hz1 hz2 rfl (by omega) _ T (pairCells (outTo L k ++ rowT L y k j)) (by rfl) ((ho9.alloc _).drew) ⟨wn.heap.size, 0, none⟩ 1 1 [.int .i64 y.1, .int .i64 x.1] (by rfl) (by rfl) (World.news_of_block (cs := #[.int .i64 y.1, .int .i64 x.1]) (t := 51) (fr := (0, 0)) (heap_alloc_new wn _)) (by simp [Value.oneCell']) (by omega) (by unfold maxLen; omega) (by omega) (by simp; omega) (wn.heap.size + 1) (by simp) ?_
                intro gg cap w6 o6 g6 hat6 hlt6
                have B6 : Below w.heap.size w w6 := ((hB9.alloc hs9 (.cells #[.int .i64 y.1, .int .i64 x.1] 51)).drew).grown g6 (by simp; omega) (fun r hr => ownBlock_ge ho9 hr)
                have k0 := HRf.out w6 B6
                have k1 := (HLf.out w6 B6 _ _ hkN Hy.out).1
                have k2 := (HLf.out w6 B6 _ _ hjN Hx.out).1))
            have o7 : w6.ownsRow w.heap.size 51 2 (.slice (some ⟨gg, 0, none⟩) (T + 1) cap) (outTo L k ++ rowT L y k (j + 1)).length (pairCells (outTo L k ++ rowT L y k (j + 1))) := by
              rw [Hsu.out, ← List.append_assoc, pairs_append, List.length_append, ← HT.out]
              exact o6
            clear o6 g6 hat6 ho9 hB9
            go_wp2
            go_roundw
            case rel => exact ⟨j + 1, by omega, by omega, by go_num, o7, B6⟩
            case measure => simp [intOf]; omega
        · obtain rfl : j = N := by omega
          have e1 : outTo L k ++ rowT L y k j = outTo L (k + 1) := by rw [out_succ Hy.out, HN.out, rowT_all HL.out Hy.out]
          rw [e1] at hoq
          clear e1
          go_wp2
          go_roundw
          case rel => exact ⟨k + 1, by omega, by go_num, hoq, hBq⟩
          case measure => simp [intOf]; omega
    · obtain rfl : k = N := by omega
      have hall : outTo L k = pairsL L := by rw [HN.out]; exact out_all L
      rw [hall] at hop
      have Hrd := Lib.hid (Rd.of_own hop)
      have HB := Lib.hid hB
      clear hall hop hB
      go_wp2
      go_ret
      exact ⟨_, rfl, Hrd.out, HB.out⟩
end Go.Proofs.Ytadfmhjnmmmalaa
