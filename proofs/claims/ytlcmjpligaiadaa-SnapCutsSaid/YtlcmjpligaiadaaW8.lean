/- Beyond: the pairs that another set hasn't. -/
import Derived.Test.YtlcmjpligaiadaaW7
namespace Go.Proofs.Ytlcmjpligaiadaa
open Go.RowKit Go.Shelf
attribute [local go_sem] Oper.semAt_some
def beyP (l m : List Pr) : List Pr := l.filter fun p => !hasP m p
theorem beyP_snoc (l m : List Pr) (p : Pr) : beyP (l ++ [p]) m = if hasP m p = true then beyP l m else beyP l m ++ [p] := by
  unfold beyP
  rw [List.filter_append]
  cases h : hasP m p <;> simp [h]
theorem beyP_le (l m : List Pr) : (beyP l m).length ≤ l.length := List.length_filter_le _ _
set_option maxRecDepth 100000 in
set_option maxHeartbeats 4000000 in
theorem beyond_any (s base room t base2 room2 : Nat) (v v2 : Value) (l m : List Pr) (w : World) (hs : SetAt w s base v room l) (ht : SetAt w t base2 v2 room2 m) :
    Calls Try.prog 26 #[.pointer (some ⟨s, 0, none⟩), .pointer (some ⟨t, 0, none⟩)] w fun e w' => ∃ oa c, e = .returned (.slice oa (beyP l m).length (beyP l m).length) ∧ w'.ownsRow w.heap.size 42 2 (.slice oa (beyP l m).length c) (beyP l m).length (pairCells (beyP l m)) ∧ Below w.heap.size w w' := by
  obtain ⟨i0, hi, hz0, hz1, hz2⟩ := info_parts info42
  have hlen := hs.len
  refine (callsIn_wide (n := 4)).1 ?_
  refine callsIn_of_wp_marks Try.func26 rfl trivial ?_ rfl
  simp only [Try.ntmps26, List.size_toArray, List.length_cons, List.length_nil, Nat.reduceAdd, Nat.reduceSub, Array.replicate_succ, Array.replicate_zero, List.push_toArray, List.append_toArray, List.nil_append, List.cons_append]
  refine wpIn_wide.2 ?_
  have B0 : Below w.heap.size w ((w.alloc (.cells #[.pointer (some ⟨t, 0, none⟩)] 35)).alloc (.cells #[.slice none 0 0] 34)) := ((Below.refl _ w).alloc (Nat.le_refl _) _).alloc (by simp) _
  go_wp2_with fail
  refine (all_any s base room v l _ (hs.new B0)).mono ?_
  rintro e w1 ⟨rfl, rfl⟩
  go_wp2_with fail
  obtain ⟨V, hV⟩ : ∃ V, ((w.alloc (.cells #[.pointer (some ⟨t, 0, none⟩)] 35)).alloc (.cells #[.slice none 0 0] 34)).alloc (.cells #[v] 34) = V := ⟨_, rfl⟩
  have q2 : Blk V w.heap.size 35 [.pointer (some ⟨t, 0, none⟩)] := by rw [← hV]; exact ((Blk.new w 35 [_]).alloc _).alloc _
  have q3 : Blk V (w.heap.size + 1) 34 [.slice none 0 0] := by rw [← hV]; exact (Blk.newAt (by simp) 34 [_]).alloc _
  have qb : Blk V (w.heap.size + 1 + 1) 34 [v] := by rw [← hV]; exact Blk.newAt (by simp) 34 [_]
  have BV : Below w.heap.size w V := by rw [← hV]; exact (((Below.refl _ _).alloc (Nat.le_refl _) _).alloc (by simp) _).alloc (by simp; omega) _
  have hVs : w.heap.size + 3 ≤ V.heap.size := by rw [← hV]; simp
  rw [hV]
  clear hV
  have hsV := hs.new BV
  have htV := ht.new BV
  have htlt : ∀ j, Foot t v2 j → j < w.heap.size := fun j hj => ht.lt hj
  have Htlt := Lib.hid htlt
  clear htlt
  have howlt : ∀ b, v.ownBlock = some b → b < w.heap.size := fun b e => own_lt hs.own e
  have Hhow := Lib.hid howlt
  clear howlt
  refine wpIn_wide.1 (range_listB (F := Fence.wide) (n := 3) rfl (by decide) (gf := 89) (lb := #[.pointer (some ⟨w.heap.size + 1 + 1, 0, none⟩)]) rfl trivial (enters_of Try.func89 (by kernel_rfl) rfl)
    (values_seq Fence.wide 2 trivial rfl (by decide) (w.heap.size + 1 + 1) l.length ((w.heap.size + 1 + 1) :: obs v) v l V rfl qb hsV.rd (by simp) (fun b e => List.mem_cons_of_mem _ (obs_mem.2 e)) (by
      intro b hb
      rcases List.mem_cons.1 hb with rfl | hb
      · omega
      · have := Hhow.out b (obs_mem.1 hb); omega))
    (by
      intro b hb
      rcases List.mem_cons.1 hb with rfl | hb
      · omega
      · have := Hhow.out b (obs_mem.1 hb); omega)
    (Below.refl _ _) (fun _ => rfl)
    (fun pre W => ∃ ov, Blk W (w.heap.size + 1) 34 [ov] ∧ W.ownsRow V.heap.size 42 2 ov (beyP pre m).length (pairCells (beyP pre m)) ∧ Mod (fun j => j = w.heap.size + 1 ∨ V.heap.size ≤ j) V W)
    (fun _ _ _ => False)
    ?own ?ownx ⟨_, q3, World.ownsRow_nil _ _ _ _, Mod.refl _ _⟩
    (fun x z => { tmps := List.toArray (.pointer (some ⟨s, 0, none⟩) :: .pointer (some ⟨t, 0, none⟩) :: undef :: .pointer (some ⟨w.heap.size, 0, none⟩) :: .slice none 0 0 :: .pointer (some ⟨w.heap.size + 1, 0, none⟩) :: .pointer (some ⟨z, 0, none⟩) :: .pointer (some ⟨s, 0, none⟩) :: .func (.func 89) #[] #[.pointer (some ⟨w.heap.size + 1 + 1, 0, none⟩)] :: .agg #[.int .i64 x.1, .int .i64 x.2] :: undef :: undef :: undef :: undef :: undef :: undef :: undef :: undef :: undef :: undef :: undef :: undef :: undef :: undef :: []), defers := [] })
    (fun x => .cells #[.int .i64 x.1, .int .i64 x.2] 42)
    ?assign ?body ?done ?stop)
  case own =>
    rintro pre A B row ⟨ov, h1, h2, h3⟩ hg hr
    exact ⟨ov, h1.grown hg (fun e => by have := (hr _ e).1; omega), own_walks h2 hg hr, h3.grown hg (fun j e _ => .inr (hr j e).1)⟩
  case ownx => exact fun c pre A B row hs hg hr => hs
  case assign =>
    intro l x W K hK
    gi_wp2
    exact hK
  case stop => exact fun D c pre W hD hpos hs hK => hs.elim
  case body =>
    rintro li pre ⟨p1, p2⟩ W z hl ⟨r, hrr⟩ ⟨ov, h1, h2, h3⟩ ⟨post, hpost⟩ hz hzc
    have hbz : Blk W z 42 [.int .i64 p1, .int .i64 p2] := hzc
    have hT : pre.length < 4096 := by
      have := congrArg List.length hpost
      simp at this
      omega
    have hT2 := beyP_le pre m
    obtain ⟨oa, oc, rfl, o1, o2⟩ := (Rd.of_own h2).shape
    have hsn := beyP_snoc pre m (p1, p2)
    have HSN := Lib.hid hsn
    obtain ⟨T, hTe⟩ : ∃ T, T = (beyP pre m).length := ⟨_, rfl⟩
    rw [← hTe] at h1 h2 hT2 o1
    have HT := Lib.hid hTe
    clear hsn hTe
    have e2 := (q2.mod h3 (by omega)).cell 0
    have e3 := h1.cell 0
    have f3 := h1.frozen 0
    have ez0 := hbz.cell 0
    have ez1 := hbz.cell 1
    simp only [List.getElem?_cons_zero, List.getElem?_cons_succ] at e2 e3 ez0 ez1
    have hWs := h3.size
    have hbl := h1.lt
    have htW := htV.mod h3 (fun j hj e => by have := Htlt.out j hj; omega)
    have hc1 : CallsIn (Fence.wide.inRound li) 0 Try.prog 24 _ _ _ := (callsIn_wide (n := 0)).2 (has_any t base2 room2 v2 m (p1, p2) W htW)
    gi_wp2_with fail
    refine ⟨trivial, hc1.mono ?_⟩
    rintro e W2 ⟨rfl, B2⟩
    have g1 := h1.below B2 hbl
    have g2 := own_new h2 B2
    have gz := hbz.below B2 hbz.lt
    have M0 : Mod (fun j => j = w.heap.size + 1 ∨ (Value.slice oa T oc).ownBlock = some j) W W2 := below_mod B2
    have e3' := g1.cell 0
    have f3' := g1.frozen 0
    have ez0' := gz.cell 0
    have ez1' := gz.cell 1
    simp only [List.getElem?_cons_zero, List.getElem?_cons_succ] at e3' ez0' ez1'
    have hW2 := B2.size
    cases hh : hasP m (p1, p2) with
    | true =>
      have hs' : beyP (pre ++ [(p1, p2)]) m = beyP pre m := by rw [HSN.out, hh]; rfl
      have HS := Lib.hid hs'
      clear hs' hh
      gi_wp2
      refine ⟨keepsOthers_mod M0 (fun b o hb ho => ?_), KeepB.mod M0 (fun b hb => ?_), .slice oa T oc, g1, ?_, h3.trans (below_mod B2)⟩
      · rintro (rfl | e)
        · unfold Blk at h1; rw [h1] at hb; obtain rfl := Option.some.inj hb; cases ho
        · obtain ⟨cur, hc⟩ := own_cells h2 e
          rw [hc] at hb; obtain rfl := Option.some.inj hb; cases ho
      · have hb2 : b < V.heap.size ∧ b ≠ w.heap.size + 1 := by
          rcases List.mem_cons.1 hb with rfl | hb
          · omega
          · have := Hhow.out b (obs_mem.1 hb); omega
        exact ⟨by omega, by rintro (e | e); exact hb2.2 e; have := ownBlock_ge h2 e; omega⟩
      · rw [HS.out, ← HT.out]; exact g2
    | false =>
      have hs' : beyP (pre ++ [(p1, p2)]) m = beyP pre m ++ [(p1, p2)] := by rw [HSN.out, hh]; rfl
      have HS := Lib.hid hs'
      clear hs' hh e3 f3 ez0 ez1
      gi_wp2_with (gi_at_builtin
                   refine wpListIn_append_own _ rfl _ _ 34 rfl V.heap.size 42 i0 (.agg #[.int .i64 0, .int .i64 0]) 2 16 Try.underlying34 hi hz0 hz1 hz2 rfl (by decide) _ _ _ rfl (g2.alloc _) ⟨W2.heap.size, 0, none⟩ 1 1 [.int .i64 p1, .int .i64 p2] rfl rfl (World.news_of_block (cs := #[.int .i64 p1, .int .i64 p2]) (t := 42) (fr := (0, 0)) (heap_alloc_new W2 _)) (by simp [Value.oneCell']) (by unfold maxLen; omega) (by omega) (by simp; omega) ?_
                   intro v1 w1 o3 hg1 _
                   obtain ⟨na, nc, rfl, n1, n2⟩ := (Rd.of_own o3).shape
                   have hge : ∀ r, (Value.slice oa T oc).ownBlock = some r → V.heap.size ≤ r := fun r e => ownBlock_ge g2 e
                   have hb1 := (g1.alloc (.cells #[.int .i64 p1, .int .i64 p2] 42)).grown hg1 (fun e => by have := hge _ e; omega)
                   have e31 := hb1.cell 0
                   have f31 := hb1.frozen 0
                   simp only [List.getElem?_cons_zero] at e31
                   have M1 : Mod (fun j => j = w.heap.size + 1 ∨ (Value.slice oa T oc).ownBlock = some j) W w1 := (M0.trans (((Mod.refl _ W2).alloc _))).grown hg1 (fun k e _ => .inr e)
                   have Hge := Lib.hid hge
                   clear hge)
      have M2 := M1.setCell (p := ⟨w.heap.size + 1, 0, none⟩) (fun _ => .inl rfl) (.slice na (T + 1) nc)
      have hge := Hge.out
      refine ⟨keepsOthers_mod M2 (fun b o hb ho => ?_), KeepB.mod M2 (fun b hb => ?_), .slice na (T + 1) nc, hb1.set 0 _, ?_, h3.trans (M2.mono (fun j _ e => by rcases e with rfl | e; exact .inl rfl; exact .inr (hge _ e)))⟩
      · rintro (rfl | e)
        · unfold Blk at h1; rw [h1] at hb; obtain rfl := Option.some.inj hb; cases ho
        · obtain ⟨cur, hc⟩ := own_cells h2 e
          rw [hc] at hb; obtain rfl := Option.some.inj hb; cases ho
      · have hb2 : b < V.heap.size ∧ b ≠ w.heap.size + 1 := by
          rcases List.mem_cons.1 hb with rfl | hb
          · omega
          · have := Hhow.out b (obs_mem.1 hb); omega
        exact ⟨by omega, by rintro (e | e); exact hb2.2 e; have := hge _ e; omega⟩
      · rw [HS.out, List.length_append, pairs_append, ← HT.out]
        exact ownsRow_setCell_other (a := ⟨w.heap.size + 1, 0, none⟩) o3 (own_ne o3 hb1 (by decide)) _
  case done =>
    rintro D W hD ⟨ov, h1, h2, h3⟩ hK
    have hTl := beyP_le l m
    obtain ⟨oa, oc, rfl, o1, o2⟩ := (Rd.of_own h2).shape
    obtain ⟨T, hTe⟩ : ∃ T, T = (beyP l m).length := ⟨_, rfl⟩
    rw [← hTe] at h1 h2 o1 hTl
    have HT := Lib.hid hTe
    clear hTe
    have e3 := h1.cell 0
    simp only [List.getElem?_cons_zero] at e3
    gi_wp2
    go_wp2_with fail
    refine (clip_any _ _ _ _ o1 o2).mono ?_
    rintro e wc ⟨rfl, rfl⟩
    go_wp2
    refine ⟨by simp, .inl ⟨_, _, rfl, run_takeDeferred hK, ?_⟩⟩
    have mD : Mod (fun j => j = D) W (W.putObj D (.deferred none)) := (Mod.refl _ _).putObj D _ (fun _ => rfl)
    have hDb : (Value.slice oa T oc).ownBlock ≠ some D := by
      intro e
      obtain ⟨cur, hc⟩ := own_cells h2 e
      rw [hc] at hK; cases hK
    refine ⟨.slice oa T T, ?_, oa, oc, by rw [HT.out], ?_, ?_⟩
    · simp [results, Try.f26, go_sem]
    · have o3 := own_keep h2 (fun g cur e hc => mD.block g (Array.getElem?_eq_some_iff.1 hc).1 (fun h => hDb (h ▸ e)))
      rw [← HT.out]
      exact own_base o3 BV.size
    · exact BV.trans ((h3.trans (mD.mono (fun j _ e => .inr (by rw [e]; exact hD)))).below (B := w.heap.size) BV.size (fun j h1 h2 => by omega))
set_option maxRecDepth 100000 in
set_option maxHeartbeats 4000000 in
theorem beyond_nil (s base room : Nat) (v : Value) (l : List Pr) (w : World) (hs : SetAt w s base v room l) :
    Calls Try.prog 26 #[.pointer (some ⟨s, 0, none⟩), .pointer none] w fun e w' => ∃ oa c, e = .returned (.slice oa (beyP l []).length (beyP l []).length) ∧ w'.ownsRow w.heap.size 42 2 (.slice oa (beyP l []).length c) (beyP l []).length (pairCells (beyP l [])) ∧ Below w.heap.size w w' := by
  obtain ⟨i0, hi, hz0, hz1, hz2⟩ := info_parts info42
  have hlen := hs.len
  refine (callsIn_wide (n := 4)).1 ?_
  refine callsIn_of_wp_marks Try.func26 rfl trivial ?_ rfl
  simp only [Try.ntmps26, List.size_toArray, List.length_cons, List.length_nil, Nat.reduceAdd, Nat.reduceSub, Array.replicate_succ, Array.replicate_zero, List.push_toArray, List.append_toArray, List.nil_append, List.cons_append]
  refine wpIn_wide.2 ?_
  have B0 : Below w.heap.size w ((w.alloc (.cells #[.pointer none] 35)).alloc (.cells #[.slice none 0 0] 34)) := ((Below.refl _ w).alloc (Nat.le_refl _) _).alloc (by simp) _
  go_wp2_with fail
  refine (all_any s base room v l _ (hs.new B0)).mono ?_
  rintro e w1 ⟨rfl, rfl⟩
  go_wp2_with fail
  obtain ⟨V, hV⟩ : ∃ V, ((w.alloc (.cells #[.pointer none] 35)).alloc (.cells #[.slice none 0 0] 34)).alloc (.cells #[v] 34) = V := ⟨_, rfl⟩
  have q2 : Blk V w.heap.size 35 [.pointer none] := by rw [← hV]; exact ((Blk.new w 35 [_]).alloc _).alloc _
  have q3 : Blk V (w.heap.size + 1) 34 [.slice none 0 0] := by rw [← hV]; exact (Blk.newAt (by simp) 34 [_]).alloc _
  have qb : Blk V (w.heap.size + 1 + 1) 34 [v] := by rw [← hV]; exact Blk.newAt (by simp) 34 [_]
  have BV : Below w.heap.size w V := by rw [← hV]; exact (((Below.refl _ _).alloc (Nat.le_refl _) _).alloc (by simp) _).alloc (by simp; omega) _
  have hVs : w.heap.size + 3 ≤ V.heap.size := by rw [← hV]; simp
  rw [hV]
  clear hV
  have hsV := hs.new BV
  have howlt : ∀ b, v.ownBlock = some b → b < w.heap.size := fun b e => own_lt hs.own e
  have Hhow := Lib.hid howlt
  clear howlt
  refine wpIn_wide.1 (range_listB (F := Fence.wide) (n := 3) rfl (by decide) (gf := 89) (lb := #[.pointer (some ⟨w.heap.size + 1 + 1, 0, none⟩)]) rfl trivial (enters_of Try.func89 (by kernel_rfl) rfl)
    (values_seq Fence.wide 2 trivial rfl (by decide) (w.heap.size + 1 + 1) l.length ((w.heap.size + 1 + 1) :: obs v) v l V rfl qb hsV.rd (by simp) (fun b e => List.mem_cons_of_mem _ (obs_mem.2 e)) (by
      intro b hb
      rcases List.mem_cons.1 hb with rfl | hb
      · omega
      · have := Hhow.out b (obs_mem.1 hb); omega))
    (by
      intro b hb
      rcases List.mem_cons.1 hb with rfl | hb
      · omega
      · have := Hhow.out b (obs_mem.1 hb); omega)
    (Below.refl _ _) (fun _ => rfl)
    (fun pre W => ∃ ov, Blk W (w.heap.size + 1) 34 [ov] ∧ W.ownsRow V.heap.size 42 2 ov (beyP pre []).length (pairCells (beyP pre [])) ∧ Mod (fun j => j = w.heap.size + 1 ∨ V.heap.size ≤ j) V W)
    (fun _ _ _ => False)
    ?own ?ownx ⟨_, q3, World.ownsRow_nil _ _ _ _, Mod.refl _ _⟩
    (fun x z => { tmps := List.toArray (.pointer (some ⟨s, 0, none⟩) :: .pointer none :: undef :: .pointer (some ⟨w.heap.size, 0, none⟩) :: .slice none 0 0 :: .pointer (some ⟨w.heap.size + 1, 0, none⟩) :: .pointer (some ⟨z, 0, none⟩) :: .pointer (some ⟨s, 0, none⟩) :: .func (.func 89) #[] #[.pointer (some ⟨w.heap.size + 1 + 1, 0, none⟩)] :: .agg #[.int .i64 x.1, .int .i64 x.2] :: undef :: undef :: undef :: undef :: undef :: undef :: undef :: undef :: undef :: undef :: undef :: undef :: undef :: undef :: []), defers := [] })
    (fun x => .cells #[.int .i64 x.1, .int .i64 x.2] 42)
    ?assign ?body ?done ?stop)
  case own =>
    rintro pre A B row ⟨ov, h1, h2, h3⟩ hg hr
    exact ⟨ov, h1.grown hg (fun e => by have := (hr _ e).1; omega), own_walks h2 hg hr, h3.grown hg (fun j e _ => .inr (hr j e).1)⟩
  case ownx => exact fun c pre A B row hs hg hr => hs
  case assign =>
    intro l x W K hK
    gi_wp2
    exact hK
  case stop => exact fun D c pre W hD hpos hs hK => hs.elim
  case body =>
    rintro li pre ⟨p1, p2⟩ W z hl ⟨r, hrr⟩ ⟨ov, h1, h2, h3⟩ ⟨post, hpost⟩ hz hzc
    have hbz : Blk W z 42 [.int .i64 p1, .int .i64 p2] := hzc
    have hT : pre.length < 4096 := by
      have := congrArg List.length hpost
      simp at this
      omega
    have hT2 := beyP_le pre []
    obtain ⟨oa, oc, rfl, o1, o2⟩ := (Rd.of_own h2).shape
    have hsn := beyP_snoc pre [] (p1, p2)
    have HSN := Lib.hid hsn
    obtain ⟨T, hTe⟩ : ∃ T, T = (beyP pre []).length := ⟨_, rfl⟩
    rw [← hTe] at h1 h2 hT2 o1
    have HT := Lib.hid hTe
    clear hsn hTe
    have e2 := (q2.mod h3 (by omega)).cell 0
    have e3 := h1.cell 0
    have f3 := h1.frozen 0
    have ez0 := hbz.cell 0
    have ez1 := hbz.cell 1
    simp only [List.getElem?_cons_zero, List.getElem?_cons_succ] at e2 e3 ez0 ez1
    have hWs := h3.size
    have hbl := h1.lt
    have hs' : beyP (pre ++ [(p1, p2)]) [] = beyP pre [] ++ [(p1, p2)] := by rw [HSN.out]; rfl
    have HS := Lib.hid hs'
    clear hs'
    obtain ⟨W2, hW2e⟩ : ∃ W2, W2 = W := ⟨_, rfl⟩
    have g1 := h1
    have g2 := h2
    have M0 : Mod (fun j => j = w.heap.size + 1 ∨ (Value.slice oa T oc).ownBlock = some j) W W := Mod.refl _ _
    clear hW2e
    gi_wp2_with fail
    refine ⟨trivial, ?_⟩
    gi_wp2_with (gi_at_builtin
                 refine wpListIn_append_own _ rfl _ _ 34 rfl V.heap.size 42 i0 (.agg #[.int .i64 0, .int .i64 0]) 2 16 Try.underlying34 hi hz0 hz1 hz2 rfl (by decide) _ _ _ rfl (g2.alloc _) ⟨W.heap.size, 0, none⟩ 1 1 [.int .i64 p1, .int .i64 p2] rfl rfl (World.news_of_block (cs := #[.int .i64 p1, .int .i64 p2]) (t := 42) (fr := (0, 0)) (heap_alloc_new W _)) (by simp [Value.oneCell']) (by unfold maxLen; omega) (by omega) (by simp; omega) ?_
                 intro v1 w1 o3 hg1 _
                 obtain ⟨na, nc, rfl, n1, n2⟩ := (Rd.of_own o3).shape
                 have hge : ∀ r, (Value.slice oa T oc).ownBlock = some r → V.heap.size ≤ r := fun r e => ownBlock_ge g2 e
                 have hb1 := (g1.alloc (.cells #[.int .i64 p1, .int .i64 p2] 42)).grown hg1 (fun e => by have := hge _ e; omega)
                 have e31 := hb1.cell 0
                 have f31 := hb1.frozen 0
                 simp only [List.getElem?_cons_zero] at e31
                 have M1 : Mod (fun j => j = w.heap.size + 1 ∨ (Value.slice oa T oc).ownBlock = some j) W w1 := (M0.trans (((Mod.refl _ W).alloc _))).grown hg1 (fun k e _ => .inr e)
                 have Hge := Lib.hid hge
                 clear hge)
    have M2 := M1.setCell (p := ⟨w.heap.size + 1, 0, none⟩) (fun _ => .inl rfl) (.slice na (T + 1) nc)
    have hge := Hge.out
    refine ⟨keepsOthers_mod M2 (fun b o hb ho => ?_), KeepB.mod M2 (fun b hb => ?_), .slice na (T + 1) nc, hb1.set 0 _, ?_, h3.trans (M2.mono (fun j _ e => by rcases e with rfl | e; exact .inl rfl; exact .inr (hge _ e)))⟩
    · rintro (rfl | e)
      · unfold Blk at h1; rw [h1] at hb; obtain rfl := Option.some.inj hb; cases ho
      · obtain ⟨cur, hc⟩ := own_cells h2 e
        rw [hc] at hb; obtain rfl := Option.some.inj hb; cases ho
    · have hb2 : b < V.heap.size ∧ b ≠ w.heap.size + 1 := by
        rcases List.mem_cons.1 hb with rfl | hb
        · omega
        · have := Hhow.out b (obs_mem.1 hb); omega
      exact ⟨by omega, by rintro (e | e); exact hb2.2 e; have := hge _ e; omega⟩
    · rw [HS.out, List.length_append, pairs_append, ← HT.out]
      exact ownsRow_setCell_other (a := ⟨w.heap.size + 1, 0, none⟩) o3 (own_ne o3 hb1 (by decide)) _
  case done =>
    rintro D W hD ⟨ov, h1, h2, h3⟩ hK
    have hTl := beyP_le l []
    obtain ⟨oa, oc, rfl, o1, o2⟩ := (Rd.of_own h2).shape
    obtain ⟨T, hTe⟩ : ∃ T, T = (beyP l []).length := ⟨_, rfl⟩
    rw [← hTe] at h1 h2 o1 hTl
    have HT := Lib.hid hTe
    clear hTe
    have e3 := h1.cell 0
    simp only [List.getElem?_cons_zero] at e3
    gi_wp2
    go_wp2_with fail
    refine (clip_any _ _ _ _ o1 o2).mono ?_
    rintro e wc ⟨rfl, rfl⟩
    go_wp2
    refine ⟨by simp, .inl ⟨_, _, rfl, run_takeDeferred hK, ?_⟩⟩
    have mD : Mod (fun j => j = D) W (W.putObj D (.deferred none)) := (Mod.refl _ _).putObj D _ (fun _ => rfl)
    have hDb : (Value.slice oa T oc).ownBlock ≠ some D := by
      intro e
      obtain ⟨cur, hc⟩ := own_cells h2 e
      rw [hc] at hK; cases hK
    refine ⟨.slice oa T T, ?_, oa, oc, by rw [HT.out], ?_, ?_⟩
    · simp [results, Try.f26, go_sem]
    · have o3 := own_keep h2 (fun g cur e hc => mD.block g (Array.getElem?_eq_some_iff.1 hc).1 (fun h => hDb (h ▸ e)))
      rw [← HT.out]
      exact own_base o3 BV.size
    · exact BV.trans ((h3.trans (mD.mono (fun j _ e => .inr (by rw [e]; exact hD)))).below (B := w.heap.size) BV.size (fun j h1 h2 => by omega))
end Go.Proofs.Ytlcmjpligaiadaa
