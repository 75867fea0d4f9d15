/- Trees: Pairs, walked. -/
import Derived.Test.YtadfmhjnmmmalaaP4
namespace Go.Proofs.Ytadfmhjnmmmalaa
open Go.RowKit Go.Maps Go.Shelf
theorem info51 : (Try.prog.info? 51).map (fun i => (i.zero, i.size, i.bytes)) = some (some (.agg #[.int .i64 0, .int .i64 0]), 2, 16) := by kernel_rfl
set_option maxRecDepth 100000 in
set_option maxHeartbeats 4000000 in
theorem pairs12_any (t : Nat) (S : Nat → Prop) (room : Nat) (L : List Lf) (w : World) (hT : Tree w t S room L) :
    Calls Try.prog 12 #[.pointer (some ⟨t, 0, none⟩)] w fun e w' => ∃ v, e = .returned v ∧ RdN w.heap.size w' v (pairsL L).length 2 (pairCells (pairsL L)) ∧ Below w.heap.size w w' := by
  obtain ⟨N, hN⟩ : ∃ N, N = L.length := ⟨_, rfl⟩
  have HT := Lib.hid hT
  obtain ⟨vn, vf, mb, ns, fr, root, D, o, hSS, hR, hS, hTi, hp, hL, hns, hl, hroom, h64⟩ := hT
  have hNb : N ≤ 1024 := by omega
  have c4 := hR.1.cell 4
  simp only [List.getElem?_cons_zero, List.getElem?_cons_succ] at c4
  have hm := own_tight hR.2.2.2
  have hml := hm.lt
  have hsz : Maps.size D = N := by
    have := hp.length_eq
    rw [List.length_map] at this
    rw [hTi.2.2, this, hN]
  rw [hsz] at hm
  have Hsz := Lib.hid hsz
  have HTi := Lib.hid hTi
  have Hp := Lib.hid hp
  have HL := Lib.hid hL
  have HN := Lib.hid hN
  have H64 := Lib.hid h64
  clear hsz hTi hp hL hN hns hl hroom hS hR hSS h64
  obtain ⟨i0, hi, hz0, hz1, hz2⟩ := info_parts info30
  go_enter Try.func12, Try.ntmps12
  go_wp2_with (first
    | (at_range; refine wpList_range_own _ rfl _ 69 rfl 30 3 law30 Try.underlying69 _ mb N D rfl hm ?_; intro w0 hrg0 hg0 hs0)
    | go_in)
  go_frame
  go_loopw [3] (fun v wr => ∃ (left : Lit → Bool) (cnt : Nat) (ks : List Int), wr.ranges Try.prog 30 (plainElem (H := Unit) Try.prog 3) mb w.heap.size N D left cnt ∧
      wr.ownsRow w.heap.size 30 1 v ks.length (ints ks) ∧ Hid (Got D left ks) ∧ ks.length + cnt ≤ N ∧ Below w.heap.size w wr)
    (fun _ wr => wr.rangeLeft mb w.heap.size)
  case atStart =>
    exact ⟨_, _, [], hrg0, World.ownsRow_nil _ _ _ _, Lib.hid (Got.start D), by rw [Hsz.out]; simp, ⟨hg0.os, hg0.tape, hg0.output, hg0.size, fun k hk => hg0.block k hk (by simp)⟩⟩
  case round =>
    obtain ⟨left, cnt, ks, hrg, hrow, HG, hlen, hB⟩ := hrel
    go_wp2_with (first
      | (at_next; refine wpList_next_ranges_ii _ rfl _ rfl 30 3 .i64 .i64 law30 Try.underlying30 Try.underlying3 mb w.heap.size N _ _ _ rfl hrg ?_ ?_)
      | go_in)
    · intro hc0 hl0
      have hks : sortI ks = L.map (·.1) := HG.out.sorted hl0 HTi.out Hp.out HL.out
      have hkl : ks.length = N := by
        rw [← sortI_len, hks, List.length_map]
        exact HN.out.symm
      obtain ⟨oa, oc, rfl, oc1, oc2⟩ := (Rd.of_own hrow).shape
      rw [hkl] at hrow ⊢
      have hrow' : wr.ownsRow w.heap.size 30 1 (.slice oa N oc) ks.length (ints ks) := by rw [hkl]; exact hrow
      go_wp2_with fail
      refine (sort33_any w.heap.size _ ks wr hrow' (by omega)).mono ?_
      rintro e w2 ⟨rfl, o2, g2⟩
      rw [hks, hkl] at o2
      have B2 : Below w.heap.size w w2 := hB.trans ⟨g2.os, g2.tape, g2.output, g2.size, fun k hk => g2.block k (by have := hB.size; omega) (fun e => by have := ownBlock_ge hrow e.symm; omega)⟩
      rw [hkl] at oc1
      clear hrow hrow' HG hrg hks hkl hlen hi hz0 hz1 hz2
      go_wp2
      go_loopw [5, 27] (fun v i wr => ∃ k : Nat, k ≤ N ∧ i = .int .i64 (k : Int) ∧ wr.ownsRow w.heap.size 30 1 (.slice oa N oc) N (ints (L.map (·.1))) ∧ wr.ownsRow w.heap.size 51 2 v (outTo L k).length (pairCells (outTo L k)) ∧ Below w.heap.size w wr)
        (fun _ i _ => N - (intOf i).toNat)
      case atStart => exact ⟨0, Nat.zero_le _, rfl, o2, World.ownsRow_nil _ _ _ _, B2⟩
      case round =>
        obtain ⟨k, hk, rfl, hor, hop, hBr⟩ := hrel
        by_cases hkN : k < N
        · obtain ⟨y, hy⟩ : ∃ y, L[k]? = some y := ⟨_, List.getElem?_eq_getElem (by rw [← HN.out]; exact hkN)⟩
          have hyL : y ∈ L := List.mem_of_getElem? hy
          have hTr := HT.out.below hBr
          obtain ⟨g, m, cap, mb', li, hlm, hseen⟩ := leaf_seen hTr (H64.out y hyL) ((boxOf_some HL.out).2 hyL)
          obtain ⟨z, zc, e0⟩ := own_addr hor (by omega)
          obtain ⟨rfl, -⟩ : oa = some ⟨z, 0, none⟩ ∧ True := by cases e0; exact ⟨rfl, trivial⟩
          have q0 : wr.cell? ⟨z, k, none⟩ = some (.int .i64 y.1) := by
            have := (Rd.of_own hor).at (i := k) (by omega)
            rw [Nat.zero_add] at this
            rw [this]
            simp [ints, hy]
          have hkI : (k : Int) < (N : Int) := by omega
          have hli0 : (0 : Int) ≤ (li : Int) := by omega
          have HS := Lib.hid hseen
          have hfind : ∀ W, Below wr.heap.size wr W → _ := fun W hW => find18_own t S room L y.2 W (hTr.below hW)
          have hFl := found_len L y.2
          generalize hF : foundL L y.2 = F at hfind hFl
          generalize hM : F.length = M at hfind hFl
          have hMN : M ≤ N := by rw [HN.out]; exact hFl
          have HF := Lib.hid hF
          have HM := Lib.hid hM
          have Hfind := Lib.hid hfind
          clear hF hM hFl hfind
          have Hy := Lib.hid hy
          clear hseen hTr hy hyL
          go_wp2_with fail
          have HBc := (Below.refl wr.heap.size wr).drew
          go_region_held3 (fun wx => wx.cell? ⟨t, 1, none⟩ = some (.slice (some ⟨g, 0, none⟩) m cap) ∧ wx.cell? ⟨t, 4, none⟩ = some (.map (some mb')) ∧ wx.cell? ⟨g, li * 10, none⟩ = some (.int .i64 y.2.x0) ∧ wx.cell? ⟨g, li * 10 + 1, none⟩ = some (.int .i64 y.2.y0) ∧ wx.cell? ⟨g, li * 10 + 2, none⟩ = some (.int .i64 y.2.z0) ∧ wx.cell? ⟨g, li * 10 + 3, none⟩ = some (.int .i64 y.2.x1) ∧ wx.cell? ⟨g, li * 10 + 4, none⟩ = some (.int .i64 y.2.y1) ∧ wx.cell? ⟨g, li * 10 + 5, none⟩ = some (.int .i64 y.2.z1) ∧ (Instr.lookup 69 (.map (some mb')) (.int .i64 y.1) false).run Try.prog wx = .ok (.int .i64 (li : Int)) wx) (with_reducible exact HS.out _ HBc)
            (first | (go_at_call 18; refine (Hfind.out _ HBc).mono ?_; rintro e w4 ⟨fa, fc, rfl, ho4, hB4⟩; replace HBc := HBc.trans (hB4.mono HBc.size)))
          have hor4 := own_new hor HBc
          have hop4 := own_new hop HBc
          have hof4 := own_base ho4 (Nat.le_trans (show w.heap.size ≤ wr.heap.size from hBr.size) (by simp))
          have hB4' : Below w.heap.size w w4 := hBr.trans (HBc.mono hBr.size)
          clear HS Hfind HBc ho4 hB4 hor hop q0 hBr
          generalize w4 = w5 at *
          obtain ⟨wo, hwo⟩ : ∃ wo : World, wo = wr := ⟨_, rfl⟩
          clear hwo
          go_wp2
          go_loopw [5, 47] (fun v i wr => ∃ j : Nat, j ≤ M ∧ i = .int .i64 (j : Int) ∧ wr.ownsRow w.heap.size 30 1 (.slice (some ⟨z, 0, none⟩) N oc) N (ints (L.map (·.1))) ∧ wr.ownsRow w.heap.size 30 1 (.slice fa M fc) M (ints F) ∧ wr.ownsRow w.heap.size 51 2 v (outTo L k ++ fTo y.1 F j).length (pairCells (outTo L k ++ fTo y.1 F j)) ∧ Below w.heap.size w wr)
            (fun _ i _ => M - (intOf i).toNat)
          case atStart => exact ⟨0, Nat.zero_le _, rfl, hor4, hof4, by rw [fto_zero, List.append_nil]; exact hop4, hB4'⟩
          case round =>
            obtain ⟨j, hj, rfl, hor5, hof5, hop5, hB5⟩ := hrel
            by_cases hjM : j < M
            · obtain ⟨x, hx⟩ : ∃ x, F[j]? = some x := ⟨_, List.getElem?_eq_getElem (by rw [HM.out]; exact hjM)⟩
              obtain ⟨zf, zg, e1⟩ := own_addr hof5 (by omega)
              obtain ⟨rfl, -⟩ : fa = some ⟨zf, 0, none⟩ ∧ True := by cases e1; exact ⟨rfl, trivial⟩
              have q1 : wr.cell? ⟨zf, j, none⟩ = some (.int .i64 x) := by
                have := (Rd.of_own hof5).at (i := j) (by omega)
                rw [Nat.zero_add] at this
                rw [this]
                simp [ints, hx]
              have hjI : (j : Int) < (M : Int) := by omega
              have Hx := Lib.hid hx
              clear hx
              have hB5s := hB5.size
              by_cases hlt : y.1 < x
              · have hnew : outTo L k ++ fTo y.1 F (j + 1) = (outTo L k ++ fTo y.1 F j) ++ [(y.1, x)] := by rw [fto_in Hx.out hlt, List.append_assoc]
                have hPb : (outTo L k ++ fTo y.1 F j).length ≤ 2000000 := by
                  have h1 := out_len L k
                  have h2 := fto_len y.1 F j
                  have h3 : k * L.length ≤ 1024 * 1024 := Nat.mul_le_mul (by omega) (by have := HN.out; omega)
                  have := HM.out
                  rw [List.length_append]
                  omega
                have Hnew := Lib.hid hnew
                clear hnew
                obtain ⟨i1, hi, hz0, hz1, hz2⟩ := info_parts info51
                go_wp2_with (first
                  | (at_builtin; refine wpList_append_own _ rfl _ _ 36 rfl w.heap.size 51 i1 (.agg #[.int .i64 0, .int .i64 0]) 2 16 Try.underlying36 hi hz0 hz1 hz2 rfl (by decide) _ _ _ rfl (hop5.alloc _) ⟨wr.heap.size, 0, none⟩ 1 1 [.int .i64 y.1, .int .i64 x] rfl rfl (World.news_of_block (cs := #[.int .i64 y.1, .int .i64 x]) (t := 51) (fr := (0, 0)) (heap_alloc_new wr _)) (by simp [Value.oneCell']) (by unfold maxLen; omega) (by omega) (by simp; omega) ?_; intro v1 w6 o6 hg6 _)
                  | go_in)
                have r6 := own_apart (hor5.alloc (.cells #[.int .i64 y.1, .int .i64 x] 51)) (hop5.alloc _) (by decide) hg6
                have f6 := own_apart (hof5.alloc (.cells #[.int .i64 y.1, .int .i64 x] 51)) (hop5.alloc _) (by decide) hg6
                have B6 : Below w.heap.size w w6 := hB5.trans (((Below.refl w.heap.size wr).alloc hB5s (.cells #[.int .i64 y.1, .int .i64 x] 51)).trans ⟨hg6.os, hg6.tape, hg6.output, hg6.size, fun k hk => hg6.block k (by simp; omega) (fun e => by have := ownBlock_ge hop5 e.symm; omega)⟩)
                have o7 : w6.ownsRow w.heap.size 51 2 v1 (outTo L k ++ fTo y.1 F (j + 1)).length (pairCells (outTo L k ++ fTo y.1 F (j + 1))) := by
                  rw [Hnew.out, pairs_append, List.length_append]
                  exact o6
                clear o6 hg6 hop5 hor5 hof5
                go_roundw
                case rel => exact ⟨j + 1, by omega, by go_num, r6, f6, o7, B6⟩
                case measure => simp [intOf]; omega
              · have hnew : outTo L k ++ fTo y.1 F (j + 1) = outTo L k ++ fTo y.1 F j := by rw [fto_out Hx.out hlt]
                rw [← hnew] at hop5
                clear hnew
                go_wp2
                go_roundw
                case rel => exact ⟨j + 1, by omega, by go_num, hor5, hof5, hop5, hB5⟩
                case measure => simp [intOf]; omega
            · obtain rfl : j = M := by omega
              have hnew : outTo L k ++ fTo y.1 F j = outTo L (k + 1) := by
                rw [out_succ Hy.out, ← fto_all L y, HF.out, HM.out]
              rw [hnew] at hop5
              clear hnew
              go_wp2
              go_roundw
              case rel => exact ⟨k + 1, by omega, by go_num, hor5, hop5, hB5⟩
              case measure => simp [intOf]; omega
        · obtain rfl : k = N := by omega
          have hall : outTo L k = pairsL L := by rw [HN.out]; exact out_all L
          rw [hall] at hop
          clear hall
          obtain ⟨ao, cap, rfl, h1, h2, hr⟩ := own_clip hop
          have hc2 : cap ≤ 9223372036854775807 := h2
          go_wp2_with fail
          refine (clip34_any ao _ cap wr h1 hc2).mono ?_
          rintro e w6 ⟨rfl, rfl⟩
          go_wp2
          go_ret
          exact ⟨_, rfl, hr, hBr⟩
    · intro x c w1 cnt1 hwx hwc hlx hat hrg1 hlt hg1 hs1 hen
      have hm0 : wr.rangeLeft mb w.heap.size = cnt := hrg.left_eq
      have B1 : Below w.heap.size w w1 := hB.trans ⟨hg1.os, hg1.tape, hg1.output, hg1.size, fun k hk => hg1.block k (by have := hB.size; omega) (fun e => by cases e; omega)⟩
      have hrow1 := hrow.kept hg1 (by
        cases hob : u3.ownBlock with
        | none => exact Or.inl rfl
        | some g => exact Or.inr (fun e => row_ne_iter hrow hrg (by rw [hob]; exact e.symm)))
      have HG1 : Hid (Got D (fun z => left z && !z.sameKey (.int .i64 x)) (ks ++ [x])) := Lib.hid (HG.out.step hlx hat)
      have hB1s := B1.size
      have hrgl := hrg1.owns.lt
      clear hrow hrg HG hat hg1 hs1
      go_wp2_with (first
        | (at_builtin; refine wpList_append_own _ rfl _ _ 45 rfl w.heap.size 30 i0 (.int .i64 0) 1 8 Try.underlying45 hi hz0 hz1 hz2 rfl (by decide) _ _ _ rfl (hrow1.alloc _) ⟨w1.heap.size, 0, none⟩ 1 1 [.int .i64 x] rfl rfl (World.news_of_block (cs := #[.int .i64 x]) (t := 30) (fr := (0, 0)) (heap_alloc_new w1 _)) (by simp [Value.oneCell']) (by unfold maxLen; omega) (by omega) (by simp; omega) ?_; intro v1 w2 o2 hg2 _)
        | go_in)
      have hge : ∀ r, u3.ownBlock = some r → w.heap.size ≤ r := fun r e => ownBlock_ge hrow1 e
      have B2 : Below w.heap.size w w2 := B1.trans (((Below.refl w.heap.size w1).alloc hB1s (.cells #[.int .i64 x] 30)).trans ⟨hg2.os, hg2.tape, hg2.output, hg2.size, fun k hk => hg2.block k (by simp; omega) (fun e => by have := hge k e.symm; omega)⟩)
      have hrg2 := (hrg1.alloc (.cells #[.int .i64 x] 30)).kept hg2 (fun e => by have := hge _ e.symm; omega) (row_ne_iter (hrow1.alloc (.cells #[.int .i64 x] 30)) (hrg1.alloc (.cells #[.int .i64 x] 30)))
      go_roundw
      case rel => exact ⟨_, cnt1, ks ++ [x], hrg2, by rw [List.length_append, ints_append]; exact o2, HG1, by rw [List.length_append, List.length_singleton]; omega, B2⟩
      case measure => rw [hrg2.left_eq, hm0]; exact hlt
end Go.Proofs.Ytadfmhjnmmmalaa
