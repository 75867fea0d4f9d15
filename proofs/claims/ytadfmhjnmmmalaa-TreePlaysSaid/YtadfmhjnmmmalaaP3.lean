/- Trees: Find. -/
import Derived.Test.YtadfmhjnmmmalaaP2
namespace Go.Proofs.Ytadfmhjnmmmalaa
open Go.RowKit Go.Maps Go.Shelf
attribute [local go_sem] Oper.semAt_some
theorem own_base {w : World} {base base' e n sz : Nat} {v : Value} {xs : List Value} (h : w.ownsRow base e sz v n xs) (hb : base' ≤ base) : w.ownsRow base' e sz v n xs := by
  obtain ⟨h1, h2⟩ := h
  rcases h2 with ⟨rfl, rfl⟩ | ⟨g, cap, cur, rfl, hgb, r⟩
  · exact ⟨h1, .inl ⟨rfl, rfl⟩⟩
  · exact ⟨h1, .inr ⟨g, cap, cur, rfl, Nat.le_trans hb hgb, r⟩⟩
/-- A row of another kind than the iterator's own. -/
theorem own_walksP {A B : World} {base e n sz k : Nat} {v : Value} {xs : List Value} {row : Option Nat} (he : e ≠ 3) (h : A.ownsRow base e sz v n xs) (hg : A.grownBy B row) (hr : ∀ r, row = some r → k ≤ r ∧ ∃ o : Obj, A.heap[r]? = some o ∧ (o.isCells = false ∨ pvI o)) : B.ownsRow base e sz v n xs :=
  own_keep h fun g cur _ hh => hg.block g (Array.getElem?_eq_some_iff.1 hh).1 (fun e2 => by
    obtain ⟨_, o, ho, hn⟩ := hr g e2.symm
    rw [hh] at ho
    obtain rfl := Option.some.inj ho
    rcases hn with hn | ⟨cs, fr, e3⟩
    · cases hn
    · simp only [Obj.cells.injEq] at e3
      exact he e3.2.1)
/-- The blocks of a slice. -/
def obs (v : Value) : List Nat := v.ownBlock.toList
theorem obs_mem {v : Value} {b : Nat} : b ∈ obs v ↔ v.ownBlock = some b := by unfold obs; simp
theorem pvI_cells (o : Obj) (h : pvI o) : o.isCells = true := by
  obtain ⟨_, _, rfl⟩ := h
  rfl
theorem keepP_mod {W W' : World} {S : Nat → Prop} (hM : Mod S W W') (h : ∀ b cs fr, W.heap[b]? = some (.cells cs 3 fr) → ¬ S b) : KeepP pvI W W' := by
  rintro b o hb ⟨cs, fr, rfl⟩
  rw [hM.block b (Array.getElem?_eq_some_iff.1 hb).1 (h b cs fr hb)]
  exact hb
theorem info30 : (Try.prog.info? 30).map (fun i => (i.zero, i.size, i.bytes)) = some (some (.int .i64 0), 1, 8) := by kernel_rfl
set_option maxRecDepth 100000 in
theorem meeting36_any (t : Nat) (q : Bx) (w : World) :
    Calls Try.prog 36 #[.pointer (some ⟨t, 0, none⟩), boxV q] w fun e w' => e = .returned (.func (.func 49) #[] #[.pointer (some ⟨w.heap.size, 0, none⟩), .pointer (some ⟨w.heap.size + 1, 0, none⟩)]) ∧ w' = (w.alloc (.cells #[.pointer (some ⟨t, 0, none⟩)] 25)).alloc (.cells q.cells.toArray 34) := by
  go_enter Try.func36, Try.ntmps36
  go_wp2
  go_ret
  exact ⟨by simp, rfl⟩
set_option maxRecDepth 100000 in
set_option maxHeartbeats 4000000 in
theorem find18_raw (t : Nat) (q : Bx) (vn vf : Value) (mb : Nat) (room : Int) (ns : List Nd) (fr : List Nat) (root : Int) (k : Nat) (D : DataW Unit) (o : Option T) (w : World) (hR : Raw w t vn vf mb room ns fr root k D) (hS : St ns fr root o) (hns : ns.length ≤ 2048) (hol : (oleaves o).length ≤ 4096) :
    Calls Try.prog 18 #[.pointer (some ⟨t, 0, none⟩), boxV q] w fun e w' => ∃ xs ao cap, xs.Perm (((oleaves o).filter (fun x => meetB x.2.2 q)).map (·.1)) ∧ e = .returned (.slice ao xs.length xs.length) ∧ w'.ownsRow w.heap.size 30 1 (.slice ao xs.length cap) xs.length (ints (sortI xs)) ∧ Below w.heap.size w w' := by
  obtain ⟨i0, hi, hz0, hz1, hz2⟩ := info_parts info30
  refine (callsIn_wide (n := 4)).1 ?_
  refine callsIn_of_wp_marks Try.func18 rfl trivial ?_ rfl
  simp only [Try.ntmps18, List.size_toArray, List.length_cons, List.length_nil, Nat.reduceAdd, Nat.reduceSub, Array.replicate_succ, Array.replicate_zero, List.push_toArray, List.append_toArray, List.nil_append, List.cons_append]
  refine wpIn_wide.2 ?_
  go_wp2_with fail
  refine (meeting36_any t q _).mono ?_
  rintro e w' ⟨rfl, rfl⟩
  go_wp2_with fail
  obtain ⟨V, hV⟩ : ∃ V, (((w.alloc (.cells q.cells.toArray 34)).alloc (.cells #[.slice none 0 0] 45)).alloc (.cells #[.pointer (some ⟨t, 0, none⟩)] 25)).alloc (.cells q.cells.toArray 34) = V := ⟨_, rfl⟩
  have q3 : Blk V (w.heap.size + 1) 45 [.slice none 0 0] := by rw [← hV]; exact ((Blk.newAt (by simp) 45 [_]).alloc _).alloc _
  have qt : Blk V (w.heap.size + 1 + 1) 25 [.pointer (some ⟨t, 0, none⟩)] := by rw [← hV]; exact (Blk.newAt (by simp) 25 [_]).alloc _
  have qq : Blk V (w.heap.size + 1 + 1 + 1) 34 q.cells := by rw [← hV]; exact Blk.newAt (by simp) 34 q.cells
  have BV : Below w.heap.size w V := by rw [← hV]; exact ((((Below.refl _ _).alloc (Nat.le_refl _) _).alloc (by simp) _).alloc (by simp; omega) _).alloc (by simp; omega) _
  have hVs : V.heap.size = w.heap.size + 4 := by rw [← hV]; simp
  have hlt := hR.lt
  have hRV := hR.below BV
  obtain ⟨xs, bs, hxp, hbs, hseq⟩ := meeting_all 3 (by decide) (w.heap.size + 1 + 1) (w.heap.size + 1 + 1 + 1) t q vn vf mb room ns fr root k D o V hRV hS hns qt qq
  have hxl : xs.length ≤ 4096 := by
    rw [hxp.length_eq, List.length_map]
    exact Nat.le_trans (List.length_filter_le _ _) hol
  have hbl : ∀ b ∈ bs, b < V.heap.size ∧ b ≠ w.heap.size + 1 := by
    intro b hb
    rcases hbs b hb with rfl | rfl | rfl | h
    · omega
    · omega
    · have := hlt b (.inl rfl)
      omega
    · have := hlt b (.inr (.inl h))
      omega
  have Hbl := Lib.hid hbl
  have Hxl := Lib.hid hxl
  have Hxp := Lib.hid hxp
  clear hxl hbl hxp hbs hlt hRV hS hol hns
  change Code.wp _ _ _ _ ((((w.alloc (.cells q.cells.toArray 34)).alloc (.cells #[.slice none 0 0] 45)).alloc (.cells #[.pointer (some ⟨t, 0, none⟩)] 25)).alloc (.cells q.cells.toArray 34))
  rw [hV]
  clear hV
  refine wpIn_wide.1 (range_listP (F := Fence.wide) (n := 4) rfl (by decide) (gf := 49) (lb := #[.pointer (some ⟨w.heap.size + 1 + 1, 0, none⟩), .pointer (some ⟨w.heap.size + 1 + 1 + 1, 0, none⟩)]) rfl trivial (enters_of Try.func49 (by kernel_rfl) rfl)
    pvI_cells hseq (fun b hb => (Hbl.out b hb).1) (Below.refl _ _) (fun _ => rfl)
    (fun pre W => ∃ ov, Blk W (w.heap.size + 1) 45 [ov] ∧ W.ownsRow V.heap.size 30 1 ov pre.length (ints pre) ∧ Mod (fun j => j = w.heap.size + 1 ∨ V.heap.size ≤ j) V W)
    (fun _ _ _ => False)
    ?own ?ownx ⟨_, q3, World.ownsRow_nil _ _ _ _, Mod.refl _ _⟩
    (fun x => { tmps := List.toArray (.pointer (some ⟨t, 0, none⟩) :: boxV q :: undef :: .pointer (some ⟨w.heap.size, 0, none⟩) :: .slice none 0 0 :: .pointer (some ⟨w.heap.size + 1, 0, none⟩) :: .int .i64 x :: .pointer (some ⟨t, 0, none⟩) :: boxV q :: .func (.func 49) #[] #[.pointer (some ⟨w.heap.size + 1 + 1, 0, none⟩), .pointer (some ⟨w.heap.size + 1 + 1 + 1, 0, none⟩)] :: .int .i64 x :: undef :: undef :: undef :: undef :: undef :: undef :: undef :: undef :: []), defers := [] })
    ?assign ?body ?done ?stop)
  case own =>
    rintro pre A B row ⟨ov, h1, h2, h3⟩ hg hr
    exact ⟨ov, h1.grown hg (fun e => by have := (hr _ e).1; omega), own_walksP (by decide) h2 hg hr, h3.grown hg (fun j e _ => .inr (hr j e).1)⟩
  case ownx => exact fun c pre A B row hs hg hr => hs
  case assign =>
    intro l x W K hK
    gi_wp2
    exact hK
  case stop => exact fun D c pre W hD hpos hs hK => hs.elim
  case body =>
    rintro li pre p W hl ⟨r, hrr⟩ ⟨ov, h1, h2, h3⟩ ⟨post, hpost⟩
    have hT : pre.length < 4096 := by
      have := congrArg List.length hpost
      have := Hxl.out
      simp at *
      omega
    obtain ⟨oa, oc, rfl, o1, o2⟩ := (Rd.of_own h2).shape
    have e3 := h1.cell 0
    have f3 := h1.frozen 0
    simp only [List.getElem?_cons_zero] at e3
    have hWs := h3.size
    have hbl := h1.lt
    gi_wp2_with (gi_at_builtin
                 refine wpListIn_append_own _ rfl _ _ 45 rfl V.heap.size 30 i0 (.int .i64 0) 1 8 Try.underlying45 hi hz0 hz1 hz2 rfl (by decide) _ _ _ rfl (h2.alloc _) ⟨W.heap.size, 0, none⟩ 1 1 [.int .i64 p] rfl rfl (World.news_of_block (cs := #[.int .i64 p]) (t := 30) (fr := (0, 0)) (heap_alloc_new W _)) (by simp [Value.oneCell']) (by unfold maxLen; omega) (by omega) (by simp; omega) ?_
                 intro v1 w1 o3 hg1 _
                 obtain ⟨na, nc, rfl, n1, n2⟩ := (Rd.of_own o3).shape
                 have hge : ∀ r, (Value.slice oa pre.length oc).ownBlock = some r → V.heap.size ≤ r := fun r e => ownBlock_ge h2 e
                 have hb1 := (h1.alloc (.cells #[.int .i64 p] 30)).grown hg1 (fun e => by have := hge _ e; omega)
                 have e31 := hb1.cell 0
                 have f31 := hb1.frozen 0
                 simp only [List.getElem?_cons_zero] at e31
                 have M1 : Mod (fun j => j = w.heap.size + 1 ∨ (Value.slice oa pre.length oc).ownBlock = some j) W w1 := ((Mod.refl _ W).alloc _).grown hg1 (fun k e _ => .inr e)
                 have Hge := Lib.hid hge
                 clear hge)
    have M2 := M1.setCell (p := ⟨w.heap.size + 1, 0, none⟩) (fun _ => .inl rfl) (.slice na (pre.length + 1) nc)
    refine ⟨keepsOthers_mod M2 (fun b o hb ho => ?_), ⟨KeepB.mod M2 (fun b hb => ?_), keepP_mod M2 (fun b cs fr hb => ?_)⟩, .slice na (pre.length + 1) nc, hb1.set 0 _, ?_, h3.trans (M2.mono (fun j _ e => by rcases e with rfl | e; exact .inl rfl; exact .inr (Hge.out _ e)))⟩
    · rintro (rfl | e)
      · unfold Blk at h1; rw [h1] at hb; obtain rfl := Option.some.inj hb; cases ho
      · obtain ⟨cur, hc⟩ := own_cells h2 e
        rw [hc] at hb; obtain rfl := Option.some.inj hb; cases ho
    · have hb2 := Hbl.out b hb
      exact ⟨by omega, by rintro (e | e); exact hb2.2 e; have := Hge.out _ e; omega⟩
    · rintro (rfl | e)
      · unfold Blk at h1; rw [h1] at hb; simp at hb
      · obtain ⟨cur, hc⟩ := own_cells h2 e
        rw [hc] at hb; simp at hb
    · rw [List.length_append, ints_append]
      exact ownsRow_setCell_other (a := ⟨w.heap.size + 1, 0, none⟩) o3 (own_ne o3 hb1 (by decide)) _
  case done =>
    rintro D W hD ⟨ov, h1, h2, h3⟩ hK
    have e3 := h1.cell 0
    simp only [List.getElem?_cons_zero] at e3
    have hxl := Hxl.out
    obtain ⟨oa, oc, rfl, o1, o2⟩ := (Rd.of_own h2).shape
    gi_wp2_with fail
    go_wp2_with fail
    refine (sort33_any V.heap.size _ xs W h2 (by omega)).mono ?_
    rintro e w2 ⟨rfl, o3, g2⟩
    have hge : ∀ r, (Value.slice oa xs.length oc).ownBlock = some r → V.heap.size ≤ r := fun r e => ownBlock_ge h2 e
    have b2 := h1.grown g2 (fun e => by have := hge _ e; omega)
    have e4 := b2.cell 0
    simp only [List.getElem?_cons_zero] at e4
    have hK2 : w2.heap[D]? = some (.deferred (some [])) := by
      rw [g2.block D (Array.getElem?_eq_some_iff.1 hK).1 (fun e => by
        obtain ⟨cur, hc⟩ := own_cells h2 e.symm
        rw [hc] at hK
        cases hK)]
      exact hK
    go_wp2_with fail
    refine (clip37_any oa xs.length oc w2 o1 o2).mono ?_
    rintro e w3 ⟨rfl, rfl⟩
    clear hi hz0 hz1 hz2
    go_wp2
    refine ⟨by simp, .inl ⟨_, _, rfl, run_takeDeferred hK2, ?_⟩⟩
    have mD : Mod (fun j => j = D) w2 (w2.putObj D (.deferred none)) := (Mod.refl _ _).putObj D _ (fun _ => rfl)
    have hDb : (Value.slice oa xs.length oc).ownBlock ≠ some D := by
      intro e
      obtain ⟨cur, hc⟩ := own_cells h2 e
      rw [hc] at hK; cases hK
    have o4 := own_keep o3 (fun g cur e hc => mD.block g (Array.getElem?_eq_some_iff.1 hc).1 (fun h => hDb (h ▸ e)))
    refine ⟨.slice oa xs.length xs.length, ?_, xs, oa, oc, Hxp.out, rfl, own_base o4 BV.size, ?_⟩
    · simp [results, Try.f18, go_sem]
    · have hM2 : Mod (fun j => j = w.heap.size + 1 ∨ V.heap.size ≤ j) V w2 := h3.grown g2 (fun j e _ => .inr (hge j e))
      exact BV.trans ((hM2.trans (mD.mono (fun j _ e => .inr (by rw [e]; exact hD)))).below (B := w.heap.size) BV.size (fun j h1 h2 => by omega))
/-- Whose boxes meet a box. -/
def foundL (L : List Lf) (q : Bx) : List Int := (L.filter (fun x => meetB x.2 q)).map (·.1)
theorem found_rises {L : List Lf} (hL : Rises L) (q : Bx) : (foundL L q).Pairwise (fun a b => a < b) := by
  unfold foundL
  rw [List.pairwise_map]
  exact hL.filter _
theorem found_of {ls : List (Int × Nat × Bx)} {L : List Lf} (hp : (ls.map bare).Perm L) (q : Bx) : ((ls.filter (fun x => meetB x.2.2 q)).map (·.1)).Perm (foundL L q) := by
  have h1 := (hp.filter (fun x => meetB x.2 q)).map (·.1)
  rw [List.filter_map, List.map_map] at h1
  exact h1
theorem find18_own (t : Nat) (S : Nat → Prop) (room : Nat) (L : List Lf) (q : Bx) (w : World) (h : Tree w t S room L) :
    Calls Try.prog 18 #[.pointer (some ⟨t, 0, none⟩), boxV q] w fun e w' => ∃ ao cap, e = .returned (.slice ao (foundL L q).length (foundL L q).length) ∧ w'.ownsRow w.heap.size 30 1 (.slice ao (foundL L q).length cap) (foundL L q).length (ints (foundL L q)) ∧ Below w.heap.size w w' := by
  obtain ⟨vn, vf, mb, ns, fr, root, D, o, rfl, hR, hS, hT, hp, hL, hns, hl, hr, _⟩ := h
  have hol : (oleaves o).length ≤ 4096 := by
    have := hp.length_eq
    rw [List.length_map] at this
    omega
  refine (find18_raw t q vn vf mb _ ns fr root _ D o w hR hS hns hol).mono ?_
  rintro e w' ⟨xs, ao, cap, hx, rfl, h1, h2⟩
  have e1 : sortI xs = foundL L q := sortI_eq (hx.trans (found_of hp q)) (found_rises hL q)
  rw [← sortI_len xs, e1] at h1 ⊢
  exact ⟨ao, cap, rfl, h1, h2⟩
theorem find18_any (t : Nat) (S : Nat → Prop) (room : Nat) (L : List Lf) (q : Bx) (w : World) (h : Tree w t S room L) :
    Calls Try.prog 18 #[.pointer (some ⟨t, 0, none⟩), boxV q] w fun e w' => ∃ v, e = .returned v ∧ RdN w.heap.size w' v (foundL L q).length 1 (ints (foundL L q)) ∧ Below w.heap.size w w' := by
  refine (find18_own t S room L q w h).mono ?_
  rintro e w' ⟨ao, cap, rfl, h1, h2⟩
  obtain ⟨ao', cap', e, _, _, hr⟩ := own_clip h1
  cases e
  exact ⟨_, rfl, hr, h2⟩
end Go.Proofs.Ytadfmhjnmmmalaa
