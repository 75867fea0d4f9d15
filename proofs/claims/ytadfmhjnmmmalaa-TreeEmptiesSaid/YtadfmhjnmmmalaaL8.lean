/- Trees: TreeEmpties, walked. -/
import Derived.Test.YtadfmhjnmmmalaaL7
namespace Go.Proofs.Ytadfmhjnmmmalaa
open Go.RowKit Go.Maps
theorem built34i (a b c d e f : Int) : Try.prog.built 34 [(0, .agg #[.int .i64 a, .int .i64 b, .int .i64 c]), (1, .agg #[.int .i64 d, .int .i64 e, .int .i64 f])] = some #[.int .i64 a, .int .i64 b, .int .i64 c, .int .i64 d, .int .i64 e, .int .i64 f] := by
  have h1 : (Try.prog.info? 34).map (fun i => i.zero) = some (some (.agg #[.int .i64 0, .int .i64 0, .int .i64 0, .int .i64 0, .int .i64 0, .int .i64 0])) := by kernel_rfl
  have h2 : (Try.prog.underlying 34).map (fun d => match d with | .struct fields => fields.toList.mapM (fun f => (Try.prog.info? f.type).map fun i => (f.offset, i.size)) | _ => none) = some (some [(0, 3), (3, 3)]) := by kernel_rfl
  obtain ⟨i, h3, h4⟩ := Option.map_eq_some_iff.1 h1
  obtain ⟨dd, h5, h6⟩ := Option.map_eq_some_iff.1 h2
  unfold Program.built
  rw [h3, h5]
  cases dd <;> simp only [reduceCtorEq] at h6
  simp only [h4, h6]
  rfl
theorem wp_built {P : Program} {o : Oper} {a : Act} {w : World} {K : Act → World → Prop} {Q : Exit → Act → World → Prop} {cells : Array Value} (t : TypeId) (parts : Array (Nat × Operand)) (ho : o.op = .build t parts)
    (hf : P.built t (parts.map fun (i, x) => (i, a.eval x)).toList = some cells)
    (h : K (a.put o.dst (.agg cells)) w) : o.wp P a w K Q := by
  refine wp_build t parts ho (by rw [hf]; rfl) ?_
  rw [hf]
  exact h
set_option maxRecDepth 100000 in
set_option maxHeartbeats 8000000 in
theorem empties5_any (lv rv : Value) (n m : Nat) (bs : List Bx) (raw : List Int) (w : World) (hbl : bs.length = n) (hrl : raw.length = m) (hb : Rd w lv n 6 (boxCells bs)) (hr : Rd w rv m 1 (ints raw)) (hin : ∀ b ∈ bs, InB b) (hrin : ∀ x ∈ raw, In64 x) :
    Calls Try.prog 5 #[lv, rv] w fun e w' => e = .returned (.bool true) ∧ Below w.heap.size w w' := by
  obtain ⟨la, lc, rfl, l1, l2⟩ := hb.shape
  obtain ⟨ra, rc, rfl, r1, r2⟩ := hr.shape
  obtain ⟨N, hN⟩ : ∃ N : Nat, N = min n 40 := ⟨_, rfl⟩
  have hN1 : N ≤ n := by omega
  have hN2 : N ≤ 40 := by omega
  have hNb : N ≤ bs.length := by omega
  have HNb := Lib.hid hNb
  have HN := Lib.hid hN
  have Hin := Lib.hid hin
  have Hrin := Lib.hid hrin
  have Hbl := Lib.hid hbl
  have Hrl := Lib.hid hrl
  have Hhb := Lib.hid hb
  have Hhr := Lib.hid hr
  clear hNb hN hin hrin hbl hrl hb hr
  obtain ⟨i0, hi, hz0, hz1, hz2⟩ := info_parts info30
  go_enter Try.func5, Try.ntmps5
  go_wp2_with fail
  refine (awake8_any w).mono ?_
  rintro e w1 ⟨rfl, hB1⟩
  have hs1 := hB1.size
  go_wp2_with fail
  refine (new_own 64 (by decide) (by decide) w1).mono ?_
  rintro e w2 ⟨t, rfl, hT2, hB2⟩
  have hB : Below w.heap.size w w2 := hB1.trans (hB2.mono hs1)
  have hTn : TreeV w.heap.size w2 t 64 (laidL 0 (wideTo bs 0)) (.slice none 0 0) 0 ((laidL 0 (wideTo bs 0)).map (·.1)) := by
    obtain ⟨S, h1, h2⟩ := hT2
    exact ⟨S, h1, fun j hj => Nat.le_trans hs1 (h2 j hj), World.ownsRow_nil _ _ _ _, fun b hb => by cases hb⟩
  clear hB1 hs1 hT2 hB2
  go_upto_block 0 with (fail)
  go_cut [8] (fun v wx => TreeV w.heap.size wx t 64 (laidL 0 (wideTo bs N)) v N ((laidL 0 (wideTo bs N)).map (·.1)) ∧ Below w.heap.size w wx)
  case first =>
    go_wp2_with fail
    go_loopw [8, 9] (fun v i wr => ∃ k : Nat, k ≤ N ∧ i = .int .i64 (k : Int) ∧ TreeV w.heap.size wr t 64 (laidL 0 (wideTo bs k)) v k ((laidL 0 (wideTo bs k)).map (·.1)) ∧ Hid (Below w.heap.size w wr)) (fun _ i _ => N - (intOf i).toNat)
    case atStart => exact ⟨0, Nat.zero_le _, rfl, hTn, Lib.hid hB⟩
    case round => as_aux_lemma =>
      clear hB hTn
      obtain ⟨k, hk, rfl, hT, HBr⟩ := hrel
      rcases (show (k < n ∧ k < 40 ∧ k < N) ∨ (¬ k < n ∧ k = N) ∨ (k < n ∧ ¬ k < 40 ∧ k = N) by have := HN.out; omega) with ⟨hlt, hlt2, hkN⟩ | ⟨hlt, hkN⟩ | ⟨hlt, hlt2, hkN⟩
      · obtain ⟨x, hx⟩ : ∃ x, bs[k]? = some x := ⟨_, List.getElem?_eq_getElem (by rw [Hbl.out]; omega)⟩
        obtain ⟨b, off, rfl⟩ := Hhb.out.addr (by omega)
        obtain ⟨q0, q1, q2, q3, q4, q5⟩ := (Hhb.out.new HBr.out).box (by omega) hx
        have hkI : (k : Int) < (n : Int) := by omega
        have hkI2 : (k : Int) < 40 := by omega
        have hxin := Hin.out x (List.mem_of_getElem? hx)
        have Hx := Lib.hid hx
        have Hxi := Lib.hid hxin
        have hsr := HBr.out.size
        clear hx hxin
        go_wp2_with fail
        refine (box11_any x Hxi.out wr).mono ?_
        rintro e w4 ⟨rfl, hB4⟩
        have hT4 := hT.new hB4
        have hs4 := hB4.size
        have HB4 := Lib.hid (HBr.out.trans (hB4.mono hsr))
        clear q0 q1 q2 q3 q4 q5 hT hB4
        go_wp2_with fail
        refine (treev_put w.heap.size t 64 _ _ k _ ((k : Int) + 1) (by unfold In64; omega) (boxN x) w4 hT4 (by omega)).mono ?_
        rintro e w5 ⟨rfl, hT5, hB5⟩
        rw [put_wide Hx.out (by omega)] at hT5 ⊢
        have HB5 := Lib.hid (HB4.out.trans hB5)
        have hs5 := hB5.size
        have hT6 := hT5.new ((Below.refl _ w5).alloc (Nat.le_refl _) (.cells #[.int .i64 ((k : Int) + 1)] 30))
        have hl6 := hT6.own
        have HT6 := Lib.hid hT6
        clear hT4 hB5 HB4 hT5 hT6
        go_wp2_with (first
          | (at_builtin; refine wpList_append_own_at _ rfl _ _ 45 rfl w.heap.size 30 i0 (.int .i64 0) 1 8 Try.underlying45 hi hz0 hz1 hz2 rfl (by decide) _ k _ rfl hl6 ⟨w5.heap.size, 0, none⟩ 1 1 [.int .i64 ((k : Int) + 1)] rfl rfl (cell_one_new _ _ _) (by simp [Value.oneCell']) (by unfold maxLen; omega) (by omega) (by simp; omega) ?_; intro v1 w6 o6 hg6 _ hv6)
          | go_in)
        have hT7 : TreeV w.heap.size w6 t 64 (laidL 0 (wideTo bs (k + 1))) v1 (k + 1) ((laidL 0 (wideTo bs (k + 1))).map (·.1)) := HT6.out.grown hg6 (by rw [laid_map_succ Hx.out, ints_append]; exact o6) hv6
        have HB7 : Hid (Below w.heap.size w w6) := Lib.hid (HB5.out.trans (((Below.refl w.heap.size w5).alloc (by omega) (.cells #[.int .i64 ((k : Int) + 1)] 30)).trans ⟨hg6.os, hg6.tape, hg6.output, hg6.size, fun j hj => hg6.block j (by simp; omega) (fun e => by have := ownBlock_ge hl6 e.symm; omega)⟩))
        clear o6 hg6 hl6 HT6 HB5
        go_roundw
        case rel => exact ⟨k + 1, by omega, by go_num, hT7, HB7⟩
        case measure => simp [intOf]; omega
      · subst hkN
        go_wp2_with fail
        go_meet
        exact ⟨hT, HBr.out⟩
      · subst hkN
        go_wp2_with fail
        go_meet
        exact ⟨hT, HBr.out⟩
  case rest => as_aux_lemma =>
    obtain ⟨hT, hBc⟩ := hcut
    obtain ⟨L0, hL0⟩ : ∃ L0, L0 = laidL 0 (wideTo bs N) := ⟨_, rfl⟩
    have hA0 : AllIn L0 := by rw [hL0]; exact laid_all bs N
    have hl0 : L0.length = N := by rw [hL0, laid_len, wide_len HNb.out]
    rw [← hL0] at hT
    have hTn : TreeV w.heap.size (wc.alloc (.cells allB.cells.toArray 34)) t 64 L0 u8 L0.length (L0.map (·.1)) := by
      rw [hl0]
      exact hT.new ((Below.refl _ wc).alloc (Nat.le_refl _) _)
    have hB0 : Below w.heap.size w (wc.alloc (.cells allB.cells.toArray 34)) := hBc.alloc hBc.size _
    have hbk := Blk.newAt (w := wc) (b := wc.heap.size) rfl 34 allB.cells
    have HA0 := Lib.hid hA0
    have Hl0 := Lib.hid hl0
    have HB0 := Lib.hid hB0
    have Hbk := Lib.hid hbk
    have HTn := Lib.hid hTn
    clear hB hA0 hl0 hB0 hbk hTn hL0 hT
    go_upto_region 12 with (fail)
    iterate 8 go_step
    refine wp_built (cells := #[.int .i64 (-1073741824), .int .i64 (-1073741824), .int .i64 (-1073741824), .int .i64 1073741824, .int .i64 1073741824, .int .i64 1073741824]) 34 #[(0, .tmp 57), (1, .tmp 58)] rfl (by rw [List.map_toArray]; exact built34i _ _ _ _ _ _) ?_
    go_frame
    go_wp2_with fail
    generalize wc.heap.size = b10 at *
    go_loopg [8, 11] L0.length (fun c v i wx => ∃ (L : List Lf) (i' : Nat), c = L.length ∧ i = .int .i64 (i' : Int) ∧ i' + L.length ≤ 40 ∧ TreeV w.heap.size wx t 64 L v L.length (L.map (·.1)) ∧ Hid (AllIn L) ∧ Hid (Below w.heap.size w wx) ∧ Hid (Blk wx b10 34 allB.cells))
    case atStart => exact ⟨L0, 0, rfl, rfl, by have := Hl0.out; omega, HTn.out, HA0, HB0, Hbk⟩
    case round => as_aux_lemma =>
      clear HTn HA0 HB0 Hbk Hl0
      obtain ⟨L, i', hc, rfl, hib, hT, HA, HBr, HQ⟩ := hrel
      obtain ⟨va, vc, hv, hv1, hv2⟩ := (Rd.of_own hT.own).shape
      subst hv
      cases hLl : L.length with
      | zero =>
        obtain rfl : L = [] := List.eq_nil_of_length_eq_zero hLl
        have hTN := hT.tree
        have hsr := HBr.out.size
        clear hT HA hLl hc
        go_wp2_with fail
        refine (pairs_own w.heap.size t 64 [] _ hTN).mono ?_
        rintro e w4 ⟨v1, rfl, hv1, hT4, hB4⟩
        replace hv1 : RdN wr.heap.size w4 v1 0 2 [] := hv1
        obtain ⟨a1, c1, rfl, -, -⟩ := hv1.1.shape
        have h10 := HQ.out.below hB4 HQ.out.lt
        have HB4 := Lib.hid (HBr.out.trans (hB4.mono hsr))
        have hs4 := HB4.out.size
        have d0 : _ = some (Value.int .i64 (-1073741824)) := h10.cell 0
        have d1 : _ = some (Value.int .i64 (-1073741824)) := h10.cell 1
        have d2 : _ = some (Value.int .i64 (-1073741824)) := h10.cell 2
        have d3 : _ = some (Value.int .i64 1073741824) := h10.cell 3
        have d4 : _ = some (Value.int .i64 1073741824) := h10.cell 4
        have d5 : _ = some (Value.int .i64 1073741824) := h10.cell 5
        clear hv1 hB4 h10 hTN HBr HQ
        go_wp2_with fail
        refine (find_own w.heap.size t 64 [] allB _ hT4).mono ?_
        rintro e w5 ⟨v2, rfl, hv2, hB5⟩
        replace hv2 : Rd w5 v2 0 1 [] := hv2
        obtain ⟨a2, c2, rfl, -, -⟩ := hv2.shape
        have HB5 := Lib.hid (HB4.out.trans (hB5.mono hs4))
        clear d0 d1 d2 d3 d4 d5 hv2 hB5 hT4
        go_wp2
        go_ret
        exact ⟨rfl, HB5.out⟩
      | succ M =>
        rw [hLl] at hT hc hib hv1
        obtain ⟨K, hK⟩ : ∃ K, K = M + 1 := ⟨_, rfl⟩
        rw [← hK] at hT hc hib hv1 hLl ⊢
        have hK0 : 0 < K := by omega
        have hKI : (0 : Int) < (K : Int) := by omega
        have hK40 : K ≤ 40 := by omega
        have hib2 : i' ≤ 40 := by omega
        clear hK
        obtain ⟨g, gc, e0⟩ := own_addr hT.own (by omega)
        obtain ⟨rfl, rfl⟩ : va = some ⟨g, 0, none⟩ ∧ vc = gc := by cases e0; exact ⟨rfl, rfl⟩
        have HT := Lib.hid hT
        have HLl := Lib.hid hLl
        have Hib := Lib.hid hib
        have Hc := Lib.hid hc
        clear e0 hT hLl hib hc
        go_upto_if 67 with (fail)
        go_cut [12] (fun p wx2 => ∃ kk : Nat, kk < K ∧ p = .int .i64 (kk : Int) ∧ wx2 = wr)
        case first =>
          by_cases hm0 : m = 0
          · subst hm0
            go_wp2_with fail
            go_meet
            exact ⟨0, hK0, rfl, rfl⟩
          · have hmI : (0 : Int) < (m : Int) := by omega
            have hmI2 : (m : Int) ≠ 0 := by omega
            obtain ⟨r, hr⟩ : ∃ r, r = i' % m := ⟨_, rfl⟩
            have hrm : r < m := by rw [hr]; exact Nat.mod_lt _ (by omega)
            have hrI : (r : Int) < (m : Int) := by omega
            have hrem : Int.tmod (i' : Int) (m : Int) = (r : Int) := by rw [hr]; exact (Int.ofNat_tmod _ _).symm
            obtain ⟨rb, ro, rfl⟩ := Hhr.out.addr hm0
            have q0 := (Hhr.out.new HBr.out).int Hrl.out hrm
            have hx : In64 (raw[r]?.getD 0) := by
              rw [List.getElem?_eq_getElem (by rw [Hrl.out]; exact hrm)]
              exact Hrin.out _ (List.getElem_mem _)
            generalize raw[r]?.getD 0 = x at q0 hx
            have Hx := Lib.hid hx
            clear hr hx
            go_wp2_with fail
            refine (pick13_any x (K : Int) wr Hx.out.1 Hx.out.2 (by omega) (by omega)).mono ?_
            rintro e w4 ⟨rfl, rfl⟩
            have hp := pickN_range (c := x) (n := (K : Int)) (by omega)
            obtain ⟨kk, hkk⟩ : ∃ kk : Nat, pickN x (K : Int) = (kk : Int) := ⟨(pickN x (K : Int)).toNat, by omega⟩
            rw [hkk] at hp ⊢
            clear hkk
            go_wp2_with fail
            go_meet
            exact ⟨kk, by omega, rfl, rfl⟩
        case rest =>
          obtain ⟨kk, hkk, rfl, rfl⟩ := hcut
          obtain ⟨wz, hwz⟩ : ∃ x : World, x = wc := ⟨_, rfl⟩
          subst hwz
          obtain ⟨R, hR⟩ : ∃ R, R = L.map (·.1) := ⟨_, rfl⟩
          have hRl : R.length = K := by rw [hR, List.length_map]; exact HLl.out
          obtain ⟨h, hh⟩ : ∃ h, R[kk]? = some h := ⟨_, List.getElem?_eq_getElem (by omega)⟩
          have Hdh := Lib.hid (del_at HT.out.rises.1 (by rw [← hR]; exact hh))
          have h64 : In64 h := by
            rw [hR, List.getElem?_map] at hh
            obtain ⟨x, hx, rfl⟩ := Option.map_eq_some_iff.1 hh
            exact HT.out.rises.2 x (List.mem_of_getElem? hx)
          have hown := HT.out.own
          rw [← hR] at hown Hdh
          have q0 : wz.cell? ⟨g, kk, none⟩ = some (.int .i64 h) := by
            have := (Rd.of_own hown).at (i := kk) (by omega)
            rw [Nat.zero_add] at this
            rw [this]
            simp [ints, hh]
          have hkI : (kk : Int) < (K : Int) := by omega
          have hkI1 : (kk : Int) + 1 ≤ (K : Int) := by omega
          have n1 := own_news hown 0 (R.take kk) (fun j y hy => by
            rw [Nat.zero_add]
            rw [List.getElem?_take] at hy
            split at hy
            · exact hy
            · cases hy)
          have t1 : (ints (R.take kk)).length = kk * 1 := by simp; omega
          have t2 : (ints (R.drop (kk + 1))).length = (K - (kk + 1)) * 1 := by simp; omega
          have Hh64 := Lib.hid h64
          have HR := Lib.hid hR
          have HRl := Lib.hid hRl
          have Hown := Lib.hid hown
          have H1 := Lib.hid n1
          have HH1 := Lib.hid t1
          have HH2 := Lib.hid t2
          clear h64 hR hRl hh hown n1 t1 t2
          go_upto_region 21 with (fail)
          go_upto_region 22 with (first
            | (at_builtin; refine wpList_append_own_at _ rfl _ _ 45 rfl wz.heap.size 30 i0 (.int .i64 0) 1 8 Try.underlying45 hi hz0 hz1 hz2 rfl (by decide) _ 0 _ rfl (World.ownsRow_nil _ _ _ _) ⟨g, 0, none⟩ kk vc (ints (R.take kk)) rfl HH1.out H1.out ints_one (by unfold maxLen; omega) (by omega) (Nat.le_refl _) ?_; intro v1 w1 o1 hg1 _ hv1)
            | go_in)
          rw [Nat.zero_add, List.nil_append] at o1
          have hB1 : Below wz.heap.size wz w1 := ⟨hg1.os, hg1.tape, hg1.output, hg1.size, fun k hk => hg1.block k hk (fun e => by cases e)⟩
          have H2 := Lib.hid (own_news (own_new Hown.out hB1) (kk + 1) (R.drop (kk + 1)) (fun j y hy => by rw [List.getElem?_drop] at hy; exact hy))
          have HO1 := Lib.hid o1
          have HB1 := Lib.hid hB1
          obtain ⟨ua, uc, rfl, -, -⟩ := (Rd.of_own o1).shape
          clear o1 hB1 hg1 hv1 H1 HH1 q0
          obtain ⟨M, hM⟩ : ∃ M, M + 1 = K := ⟨K - 1, by omega⟩
          have hsum : kk + (K - (kk + 1)) = M := by omega
          have Hsum := Lib.hid hsum
          clear hsum
          go_cut [8] (fun v wx => wx.ownsRow wz.heap.size 30 1 v M (ints (R.take kk ++ R.drop (kk + 1))) ∧ Below wz.heap.size wz wx)
          case first =>
            have hfin : ∀ v2 w2, w2.ownsRow wz.heap.size 30 1 v2 (kk + (K - (kk + 1))) (ints (R.take kk) ++ ints (R.drop (kk + 1))) → w1.grownBy w2 (Value.slice ua kk uc).ownBlock → w2.ownsRow wz.heap.size 30 1 v2 M (ints (R.take kk ++ R.drop (kk + 1))) ∧ Below wz.heap.size wz w2 := fun v2 w2 o2 hg2 => by
              rw [Hsum.out] at o2
              exact ⟨by rw [ints_append]; exact o2, HB1.out.trans ⟨hg2.os, hg2.tape, hg2.output, hg2.size, fun k hk => hg2.block k (by have := HB1.out.size; omega) (fun e => by have := ownBlock_ge HO1.out e.symm; omega)⟩⟩
            have Hfin := Lib.hid hfin
            clear hfin hM
            by_cases hcap : vc = kk + 1
            · subst hcap
              have HK : Hid (R.drop (kk + 1) = []) := Lib.hid (List.drop_eq_nil_of_le (by rw [HRl.out]; exact hv1))
              go_wp2_with (first
                | (at_builtin; refine wpList_append_own_at _ rfl _ _ 45 rfl wz.heap.size 30 i0 (.int .i64 0) 1 8 Try.underlying45 hi hz0 hz1 hz2 rfl (by decide) _ kk _ rfl HO1.out ⟨g, 0, none⟩ 0 0 [] rfl rfl (by intro j u hu; cases hu) (by intro u hu; cases hu) (by unfold maxLen; omega) (by omega) HB1.out.size ?_; intro v2 w2 o2 hg2 _ hv2)
                | go_in)
              go_meet
              exact Hfin.out _ _ (by rw [HK.out, show K - (kk + 1) = 0 by omega]; exact o2) hg2
            · go_wp2_with (first
                | (at_builtin; refine wpList_append_own_at _ rfl _ _ 45 rfl wz.heap.size 30 i0 (.int .i64 0) 1 8 Try.underlying45 hi hz0 hz1 hz2 rfl (by decide) _ kk _ rfl HO1.out ⟨g, kk + 1, none⟩ (K - (kk + 1)) (vc - (kk + 1)) (ints (R.drop (kk + 1))) rfl HH2.out H2.out ints_one (by unfold maxLen; omega) (by omega) HB1.out.size ?_; intro v2 w2 o2 hg2 _ hv2)
                | go_in)
              go_meet
              exact Hfin.out _ _ o2 hg2
          case rest =>
            obtain ⟨o2, hB2⟩ := hcut
            have hT2 := HT.out.other hB2 (own_base o2 HBr.out.size) (fun b hb => ownBlock_ge o2 hb)
            obtain ⟨xa, xc, rfl, x1, x2⟩ := (Rd.of_own o2).shape
            have HB2 := Lib.hid (HBr.out.trans (hB2.mono HBr.out.size))
            have HQ2 := Lib.hid (HQ.out.below hB2 HQ.out.lt)
            obtain ⟨L', hL'⟩ : ∃ L', L' = delL L h := ⟨_, rfl⟩
            have Hd := Hdh.out
            rw [← hL'] at Hd
            obtain ⟨d1, d2, d3, d4, d5⟩ := Hd
            have hlM : L'.length = M := by have := HLl.out; omega
            have hA' : AllIn L' := by rw [hL']; exact del_all HA.out h
            have hrow : L'.map (·.1) = R.take kk ++ R.drop (kk + 1) := d2
            have hf : foundL L' allB = R.take kk ++ R.drop (kk + 1) := by rw [found_all hA', hrow]
            have hfl : (foundL L' allB).length = M := by rw [found_all hA', List.length_map, hlM]
            have HL' := Lib.hid hL'
            have HlM := Lib.hid hlM
            have HA' := Lib.hid hA'
            have Hrow := Lib.hid hrow
            have Hf := Lib.hid hf
            have Hfl := Lib.hid hfl
            have D1 := Lib.hid d1
            have D4 := Lib.hid d4
            have D5 := Lib.hid d5
            clear o2 hB2 hL' d1 d2 d3 d4 d5 hlM hA' hrow hf hfl HBr HQ HB1 HT Hown H2 HO1 HH2 HA
            have hs2 := HB2.out.size
            go_wp2_with fail
            refine (treev_drop w.heap.size t 64 L _ M _ h Hh64.out wc hT2 hs2).mono ?_
            rintro e w3 ⟨rfl, hT3, hB3, hk3⟩
            rw [← HL'.out] at hT3
            rw [D1.out]
            have HB3 := Lib.hid (HB2.out.trans hB3)
            have HQ3 := Lib.hid (hk3 _ _ HQ2.out)
            have hs3 := HB3.out.size
            clear hT2 hB3 hk3 HB2 HQ2 hs2
            go_wp2_with fail
            refine (treev_drop w.heap.size t 64 L' _ M _ h Hh64.out w3 hT3 hs3).mono ?_
            rintro e w4 ⟨rfl, hT4, hB4, hk4⟩
            rw [D4.out]
            rw [D5.out] at hT4
            have HB4 := Lib.hid (HB3.out.trans hB4)
            have HQ4 := HQ3
            replace HQ4 := Lib.hid (hk4 _ _ HQ3.out)
            have hs4 := HB4.out.size
            have hbk := HQ4.out
            have c0 : _ = some (Value.int .i64 (-1073741824)) := hbk.cell 0
            have c1 : _ = some (Value.int .i64 (-1073741824)) := hbk.cell 1
            have c2 : _ = some (Value.int .i64 (-1073741824)) := hbk.cell 2
            have c3 : _ = some (Value.int .i64 1073741824) := hbk.cell 3
            have c4 : _ = some (Value.int .i64 1073741824) := hbk.cell 4
            have c5 : _ = some (Value.int .i64 1073741824) := hbk.cell 5
            clear hT3 hB4 hk4 HB3 HQ3 hs3 hbk
            go_wp2_with fail
            refine (find_own w.heap.size t 64 L' allB w4 hT4.tree).mono ?_
            rintro e w5 ⟨v5, rfl, hv5, hB5⟩
            rw [Hfl.out, Hf.out] at hv5
            have hT5 := hT4.new hB5
            have HB5 := Lib.hid (HB4.out.trans (hB5.mono hs4))
            have HQ5 := Lib.hid (HQ4.out.below hB5 HQ4.out.lt)
            have hs5 := HB5.out.size
            obtain ⟨ya, yc, rfl, y1, y2⟩ := hv5.shape
            clear hT4 hB5 HB4 HQ4 hs4 c0 c1 c2 c3 c4 c5
            go_wp2_with fail
            refine (handles17_any _ _ M (R.take kk ++ R.drop (kk + 1)) (by rw [← Hf.out]; exact Hfl.out) w5 hv5 (Rd.of_own hT5.own)).mono ?_
            rintro e w6 ⟨rfl, jn, rfl⟩
            have hT6 := hT5.new (Below.drewN' (Below.refl _ _) jn)
            have HB6 := Lib.hid (Below.drewN' HB5.out jn)
            have HQ6 := Lib.hid (HQ5.out.drewN jn)
            clear hv5 hT5 HB5 HQ5 hs5 y1 y2
            go_wp2_with fail
            refine (len_own w.heap.size t 64 L' _ hT6.tree).mono ?_
            rintro e w7 ⟨rfl, rfl⟩
            rw [HlM.out]
            have hs6 := HB6.out.size
            go_wp2_with fail
            refine (pairs_own w.heap.size t 64 L' _ hT6.tree).mono ?_
            rintro e w8 ⟨v8, rfl, hv8, hT8, hB8⟩
            have hTV8 := hT6.new hB8
            have HB8 := Lib.hid (HB6.out.trans (hB8.mono hs6))
            have HQ8 := Lib.hid (HQ6.out.below hB8 HQ6.out.lt)
            obtain ⟨P, hP⟩ : ∃ P, P = (pairsL L').length := ⟨_, rfl⟩
            rw [← hP] at hv8
            have HP := Lib.hid hP
            obtain ⟨za, zc, rfl, z1, z2⟩ := hv8.1.shape
            have Hv8 := Lib.hid hv8.1
            clear hT6 HB6 HQ6 hT8 hB8 hs6 hP hv8
            go_wp2_with fail
            go_loopw [16] (fun i wx => ∃ j : Nat, j ≤ P ∧ i = .int .i64 (j : Int) ∧ wx = w8) (fun i _ => P - (intOf i).toNat)
            case atStart => exact ⟨0, Nat.zero_le _, rfl, rfl⟩
            case round =>
              obtain ⟨j, hj, rfl, rfl⟩ := hrel
              by_cases hjP : j < P
              · obtain ⟨p, hp⟩ : ∃ p, (pairsL L')[j]? = some p := ⟨_, List.getElem?_eq_getElem (by rw [← HP.out]; exact hjP)⟩
                obtain ⟨zb, zo, rfl⟩ := Hv8.out.addr (by omega)
                obtain ⟨f0, f1⟩ := Hv8.out.pair hjP hp
                obtain ⟨p1, p2⟩ := p
                obtain ⟨n1, n2⟩ := pairs_not (L := L) (h := h) (by rw [← HL'.out]; exact List.mem_of_getElem? hp)
                simp only at f0 f1 n1 n2
                have e1 : (p1 == h) = false := by simp [n1]
                have e2 : (p2 == h) = false := by simp [n2]
                have hjI : (j : Int) < (P : Int) := by omega
                clear hp n1 n2
                go_wp2
                go_roundw
                case rel => exact ⟨j + 1, by omega, by go_num, trivial⟩
                case measure => simp [intOf]; omega
              · obtain rfl : j = P := by omega
                go_wp2
                go_roundg L'.length
                case measure => have := HlM.out; have := HLl.out; have := Hc.out; omega
                case rel =>
                  have hrr := Hrow.out
                  refine ⟨L', i' + 1, rfl, by go_num, by have := HlM.out; have := Hib.out; omega, ?_, HA', HB8, HQ8⟩
                  rw [hrr, HlM.out]
                  exact hTV8
end Go.Proofs.Ytadfmhjnmmmalaa
