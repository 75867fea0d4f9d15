/- Trees: hang. -/
import Derived.Test.YtadfmhjnmmmalaaN3
namespace Go.Proofs.Ytadfmhjnmmmalaa
open Go.RowKit Go.Maps
theorem law30 : Keyed Try.prog 30 := int_keyed Try.underlying30
theorem key30 {h : Int} (hh : In64 h) : keyOf Try.prog 30 (.int .i64 h) = some (.int .i64 h) := keyOf_int_mk Try.underlying30 (WalkArith.wf_i64 (by unfold In64 at hh; omega))
theorem elem3 {j : Int} (hh : In64 j) : plainElem (H := Unit) Try.prog 3 (.int .i64 j) = some (.lit (.int .i64 j), []) := plainElem_int Try.underlying3 (WalkArith.wf_i64 (by unfold In64 at hh; omega))
def oleaves : Option T → List (Int × Nat × Bx)
  | none => []
  | some t => t.leaves
def oidxs : Option T → List Nat
  | none => []
  | some t => t.idxs
theorem St.book {ns : List Nd} {fr : List Nat} {root : Int} {o : Option T} (h : St ns fr root o) : Book (oidxs o) fr ns.length := by
  cases o with
  | none => exact h.1
  | some t => exact h.2.1
theorem LaidN.len {ns ms : List Nd} {fr gr X : List Nat} {nd : Nd} {j : Nat} (h : LaidN ns fr nd j ms gr) (hb : Book X fr ns.length) (N : Nat) (h1 : ns.length ≤ N) (h2 : X.length + 1 ≤ N) : ms.length ≤ N := by
  rcases h with ⟨_, rfl⟩ | ⟨rfl, _, _, rfl⟩
  · rw [List.length_set]; exact h1
  · have := hb.2.2
    rw [List.append_nil] at this
    rw [List.length_append, List.length_singleton]
    omega
theorem oidxs_len (o : Option T) : (oidxs o).length ≤ 2 * (oleaves o).length := by
  cases o with
  | none => exact Nat.zero_le _
  | some t => have := t.idxs_len; show t.idxs.length ≤ 2 * t.leaves.length; omega
theorem Raw.len {w : World} {t g m cap : Nat} {vf : Value} {mb : Nat} {room : Int} {ns : List Nd} {fr : List Nat} {root : Int} {n : Nat} {D : DataW Unit} (h : Raw w t (.slice (some ⟨g, 0, none⟩) m cap) vf mb room ns fr root n D) : ns.length = m := by
  rcases h.2.1.2 with ⟨h0, _⟩ | ⟨_, _, _, hv, _⟩
  · cases h0
  · cases hv; rfl
/-- What hang leaves. -/
def HangP (t mb : Nat) (vn vf : Value) (room : Int) (n : Nat) (D : DataW Unit) (o : Option T) (h : Int) (b : Bx) (w : World) (e : Ending) (w' : World) : Prop :=
  e = .returned (.tuple #[]) ∧ ∃ ms gr root' vn' vf' j u, Raw w' t vn' vf' mb room ms gr root' (n + 1) (D.put (.int .i64 h) (.lit (.int .i64 ((j : Nat) : Int)))) ∧ St ms gr root' (some u) ∧ u.leaves.Perm (oleaves o ++ [(h, j, b)]) ∧ ms.length ≤ 2048 ∧ Turn (Foot t vn vf mb) (Foot t vn' vf' mb) w w'
theorem Raw.map {w w' : World} {t : Nat} {vn vf : Value} {mb : Nat} {room : Int} {ns : List Nd} {fr : List Nat} {root : Int} {n : Nat} {D : DataW Unit} (h : Raw w t vn vf mb room ns fr root n D) {n' : Nat} {D' : DataW Unit} (h' : MapR w' mb n' D') (hg : w.grownBy w' (some mb)) :
    Raw w' t vn vf mb room ns fr root n' D' ∧ Mod (fun j => j = mb) w w' := by
  have hM : Mod (fun j => j = mb) w w' := (Mod.refl _ w).grown hg (fun k e _ => by cases e; rfl)
  obtain ⟨h1, h2, h3, h4⟩ := h
  refine ⟨⟨h1.mod hM (fun e => ?_), own_modk h2 hM (fun j cur hj => by subst hj; exact map_not h4 cur 79), own_modk h3 hM (fun j cur hj => by subst hj; exact map_not h4 cur 3), h'⟩, hM⟩
  subst e
  obtain ⟨es, clock, hh, _⟩ := h4
  exact (blk_not h1).2 es clock hh
theorem modify_comm (ns : List Nd) {i j : Nat} (h : i ≠ j) (f f' : Nd → Nd) : (ns.modify i f).modify j f' = (ns.modify j f').modify i f := by
  apply List.ext_getElem?
  intro k
  rw [List.getElem?_modify, List.getElem?_modify, List.getElem?_modify, List.getElem?_modify]
  by_cases h1 : i = k
  · subst h1
    simp [Ne.symm h]
  · by_cases h2 : j = k
    · subst h2; simp [h1]
    · simp [h1, h2]
theorem Mid.hung {ns ms : List Nd} {fr gr : List Nat} {root : Int} {c : List Fr} {i j k : Nat} {h0 h1 : Int} {b0 b1 : Bx} {hb : Bx} {hh : Int} {qs : List Nd} {root' : Int} (a1 : Hold ns (upOf c) (.leaf i h0 b0)) (a2 : HoldC ns i c) (a5 : FitC c) (a6 : root = rootOf c i) (hj : j ∉ i :: idxsC c) (hnj : ns[j]? = some ⟨b1, -1, -1, -1, h1⟩) (hbook : Book (j :: i :: idxsC c) fr ns.length)
    (hl : LaidN ns fr ⟨hb, upOf c, i, j, hh⟩ k ms gr) (hcov0 : Cov b0 hb) (hcov1 : Cov b1 hb) (hr : ReplN c i k ((ms.modify i (setUp k)).modify j (setUp k)) root qs root') : Mid qs gr root' c (.node k hb (.leaf i h0 b0) (.leaf j h1 b1)) := by
  obtain ⟨qs2, r2, hm, hM⟩ := Mid.hang a1 a2 a5 a6 hj hnj hbook hl hcov0 hcov1
  cases c with
  | nil =>
    obtain ⟨rfl, rfl⟩ := hm
    obtain ⟨rfl, rfl⟩ := hr
    exact hM
  | cons f c =>
    obtain ⟨rfl, rfl⟩ := hm
    obtain ⟨rfl, rfl⟩ := hr
    exact hM
set_option maxRecDepth 100000 in
set_option maxHeartbeats 4000000 in
theorem hang31_any (t mb : Nat) (vn vf : Value) (room : Int) (ns : List Nd) (fr : List Nat) (root : Int) (n : Nat) (D : DataW Unit) (o : Option T) (h : Int) (b : Bx) (w : World) (hR : Raw w t vn vf mb room ns fr root n D) (hS : St ns fr root o) (hh : In64 h) (hns : ns.length ≤ 2048) (hol : (oleaves o).length ≤ 1023) (hn : n ≤ 1000000) :
    Calls Try.prog 31 #[.pointer (some ⟨t, 0, none⟩), .int .i64 h, boxV b] w (HangP t mb vn vf room n D o h b w) := by
  have hbk := hS.book
  have hx := oidxs_len o
  have hfl : ∀ i ∈ fr, i < ns.length := fun i hi => hbk.2.1 i (by simp [hi])
  have hfr : fr.length ≤ 4096 := by have := hbk.2.2; rw [List.length_append] at this; omega
  have bb := Blk.newAt (w := w) (b := w.heap.size) rfl 34 b.cells
  have B0 : Below w.heap.size w (w.alloc (.cells b.cells.toArray 34)) := (Below.refl _ w).alloc (Nat.le_refl _) _
  have T0 : Turn (Foot t vn vf mb) (Foot t vn vf mb) w (w.alloc (.cells b.cells.toArray 34)) := Turn.of_below _ B0
  have hR0 := hR.below B0
  have hRl := hR.lt
  go_enter Try.func31, Try.ntmps31
  go_wp2_with fail
  refine (lay43_any t mb vn vf room ns fr root n D ⟨b, -1, -1, -1, h⟩ _ hR0 hfl (by omega) hfr).mono ?_
  rintro e w1 ⟨j, ms, gr, vn1, vf1, rfl, hL, hR1, hT1⟩
  have T1 := T0.trans hT1
  have bb1 := bb.mod hT1.1 (fun hf => by have := hRl _ hf; omega)
  obtain ⟨hbk1, hj1, hj2, hj3⟩ := hL.book hbk
  have hms := hL.len hbk 2048 hns (by omega)
  have c4 := hR1.1.cell 4
  simp only [List.getElem?_cons_zero, List.getElem?_cons_succ] at c4
  have hjm : j < ms.length := (List.getElem?_eq_some_iff.1 hj2).1
  have hmap := hR1.2.2.2
  have hnm : n < maxLen := by unfold maxLen; omega
  have Hh := Lib.hid hh
  cases o with
  | none =>
    obtain ⟨_, rfl⟩ := hS
    go_wp2_with (at_mapUpdate; refine wpList_mapUpdate_own _ rfl _ _ _ 69 rfl 30 3 law30 Try.underlying69 _ mb n _ rfl hmap hnm _ _ _ rfl rfl (key30 hh) _ [] (elem3 (by unfold In64; omega)) ?_; intro w2 hown2 hgrow2; obtain ⟨hR2, M2⟩ := hR1.map hown2 hgrow2; have ht2 := hR2.1; have c3 := ht2.cell 3; have k3 := ht2.frozen 3; have c1 := ht2.cell 1; simp only [List.getElem?_cons_zero, List.getElem?_cons_succ] at c1 c3)
    have T2 : Turn (Foot t vn vf mb) (Foot t vn1 vf1 mb) w (w2.setCell ⟨t, 3, none⟩ (.int .i64 (j : Int))) := T1.trans ⟨(M2.mono (fun k _ hk => .inr (.inr (.inr hk)))).setCell (p := ⟨t, 3, none⟩) (fun _ => .inl rfl) _, fun k hk => .inl hk⟩
    have R3 := hR2.root (j : Int)
    exact bodyPost_ret (v := .tuple #[]) (by simp [results, Try.f31, go_sem]) rfl ⟨rfl, ms, gr, (j : Int), vn1, vf1, j, .leaf j h b, R3, ⟨by simp only [Hold]; exact hj2, hbk1, trivial, rfl⟩, List.Perm.refl _, hms, T2⟩
  | some T0' =>
    obtain ⟨hH, hB, hF, hroot⟩ := hS
    obtain ⟨ri, hri0⟩ : ∃ ri, ri = T0'.idx := ⟨_, rfl⟩
    rw [← hri0] at hroot
    subst hroot
    have Hri := Lib.hid hri0
    clear hri0
    have hH1 : Hold ms (-1) T0' := hH.keep (fun i hi => hj3 i hi)
    have hr0 : ¬ (ri : Int) < 0 := by omega
    go_wp2_with (at_mapUpdate; refine wpList_mapUpdate_own _ rfl _ _ _ 69 rfl 30 3 law30 Try.underlying69 _ mb n _ rfl hmap hnm _ _ _ rfl rfl (key30 hh) _ [] (elem3 (by unfold In64; omega)) ?_; intro w2 hown2 hgrow2; obtain ⟨hR2, M2⟩ := hR1.map hown2 hgrow2; have ht2 := hR2.1; have c3 := ht2.cell 3; have k3 := ht2.frozen 3; have c1 := ht2.cell 1; simp only [List.getElem?_cons_zero, List.getElem?_cons_succ] at c1 c3)
    obtain ⟨g, cap, hvn⟩ := hR2.nodes (fun e => by rw [e] at hjm; cases hjm)
    subst hvn
    obtain ⟨m, hm⟩ : ∃ m, m = ms.length := ⟨_, rfl⟩
    have bb2 := bb1.mod M2 (fun e => by have := hRl mb (.inr (.inr (.inr rfl))); omega)
    have w2s := M2.size
    have h12 := hT1.1.size
    have Hm := Lib.hid hm
    have HR2 := Lib.hid hR2
    have HH1 := Lib.hid hH1
    have bl2 := bb2.lt
    clear c1 c3 k3 ht2 hown2 hgrow2 hmap c4 hR1 hR0 bb bb1 hm hR2 hH1 hH hr0
    go_loopg [7, 8, 9, 10] T0'.nodes (fun k a _ _ _ wr => ∃ (c : List Fr) (s : T) (si : Nat), k = s.nodes ∧ Hid (plug c s = T0') ∧ Hid (si = s.idx) ∧ a = .int .i64 si ∧ Below w2.heap.size w2 wr)
    case atStart => exact ⟨[], T0', ri, rfl, Lib.hid rfl, Hri, rfl, Below.refl _ _⟩
    case round =>
      obtain ⟨c, s, si, rfl, hpl, hsi, rfl, hBr⟩ := hrel
      have hRr := HR2.out.below hBr
      have ht := hRr.1
      have c1 := ht.cell 1
      simp only [List.getElem?_cons_zero, List.getElem?_cons_succ] at c1
      rw [← Hm.out] at c1
      have hown := hRr.2.1
      rw [← Hm.out] at hown
      have hHs := (hold_plug c s).1 (by rw [hpl.out]; exact HH1.out)
      have bbr := bb2.below hBr bl2
      cases s with
      | leaf i h0 b0 =>
        obtain rfl : si = i := hsi.out
        obtain ⟨x1, xc⟩ := hHs
        simp only [Hold] at x1
        obtain ⟨p0, p1, p2, p3, p4, p5, p6, p7, p8, p9⟩ := node_cells hown x1
        have hfl := (List.getElem?_eq_some_iff.1 x1).1
        have hiI : (si : Int) < (m : Int) := by have := Hm.out; omega
        have HX1 := Lib.hid x1
        have HXC := Lib.hid xc
        have a0 : _ = some (Value.int .i64 b.x0) := bbr.cell 0
        have a1 : _ = some (Value.int .i64 b.y0) := bbr.cell 1
        have a2 : _ = some (Value.int .i64 b.z0) := bbr.cell 2
        have a3 : _ = some (Value.int .i64 b.x1) := bbr.cell 3
        have a4 : _ = some (Value.int .i64 b.y1) := bbr.cell 4
        have a5 : _ = some (Value.int .i64 b.z1) := bbr.cell 5
        clear x1 xc
        go_upto_region 13 with (fail)
        go_cut [12] (fun v wx => ∃ (k : Nat) (qs : List Nd) (gr2 : List Nat) (vn2 vf2 : Value), v = .int .i64 (k : Int) ∧ LaidN ms gr ⟨joinB b0 b, upOf c, si, j, 0⟩ k qs gr2 ∧ Raw wx t vn2 vf2 mb room qs gr2 ri (n + 1) (D.put (.int .i64 h) (.lit (.int .i64 (j : Int)))) ∧ Turn (Foot t (.slice (some ⟨g, 0, none⟩) ms.length cap) vf1 mb) (Foot t vn2 vf2 mb) wr wx)
        case first =>
          have hgrl : ∀ x ∈ gr, x < ms.length := fun x hx => hbk1.2.1 x (by simp [hx])
          have hgrn : gr.length ≤ 4096 := by have := hbk1.2.2; rw [List.length_append] at this; omega
          go_wp2_with fail
          go_region_law (first
            | (go_simp; go_at_call 22; refine (join22_any _ _ _).mono ?_; rintro e w4 ⟨rfl, hB⟩)
            | (go_simp; go_at_call 43; refine (lay43_any t mb _ vf1 room ms gr ri (n + 1) _ ⟨joinB b0 b, upOf c, si, j, 0⟩ _ ((hRr.drew).below hB) hgrl (by omega) hgrn).mono ?_; rintro e w5 ⟨k, qs, gr2, vn2, vf2, rfl, hL2, hR5, hT5⟩))
          all_goals
            go_wp2_with fail
            go_meet
            exact ⟨k, qs, gr2, vn2, vf2, rfl, hL2, hR5, (Turn.of_below _ ((Below.refl wr.heap.size wr).drew.trans hB)).trans hT5⟩
        case rest =>
          obtain ⟨k, qs, gr2, vn2, vf2, rfl, hL2, hR5, hT5⟩ := hcut
          have hbkT : Book (j :: si :: idxsC c) gr ms.length := by
            have hp := plug_idxs c (.leaf si h0 b0)
            rw [hpl.out] at hp
            exact hbk1.perm (hp.cons j)
          obtain ⟨hbk2, hk1, hk2, hk3⟩ := hL2.book hbkT
          have hqi : qs[si]? = some ⟨b0, upOf c, -1, -1, h0⟩ := by rw [hk3 si (by simp)]; exact HX1.out
          have hqj : qs[j]? = some ⟨b, -1, -1, -1, h⟩ := by rw [hk3 j (by simp)]; exact hj2
          have hql : qs.length ≤ 2048 := hL2.len hbkT 2048 hms (by
            have h1 := hbkT.2.2
            have h2 := (T0'.idxs_len)
            have h3 := plug_idxs c (.leaf si h0 b0)
            rw [hpl.out] at h3
            have h4 := h3.length_eq
            have h5 : T0'.leaves.length ≤ 1023 := hol
            simp only [T.idxs, List.length_append, List.length_cons, List.length_nil] at h4 ⊢
            omega)
          have hqil := (List.getElem?_eq_some_iff.1 hqi).1
          have hqjl := (List.getElem?_eq_some_iff.1 hqj).1
          obtain ⟨g2, cap2, hvn2⟩ := hR5.nodes (fun e => by rw [e] at hqil; cases hqil)
          subst hvn2
          obtain ⟨m2, hm2⟩ : ∃ m2, m2 = qs.length := ⟨_, rfl⟩
          have hij : si ≠ j := by
            have := hbkT.1
            simp only [List.cons_append, List.nodup_cons, List.mem_cons, not_or] at this
            exact fun e => this.1.1 e.symm
          have ht5 := hR5.1
          have d1 := ht5.cell 1
          simp only [List.getElem?_cons_zero, List.getElem?_cons_succ] at d1
          rw [← hm2] at d1
          have hown5 := hR5.2.1
          rw [← hm2] at hown5
          obtain ⟨_, _, _, _, _, _, i6, _⟩ := node_cells hown5 hqi
          obtain ⟨_, _, _, _, _, _, j6, _⟩ := node_cells hown5 hqj
          obtain ⟨_, _, _, _, _, _, fi6, _⟩ := node_frozen hown5 (j := si)
          obtain ⟨_, _, _, _, _, _, fj6, _⟩ := node_frozen hown5 (j := j)
          have hsI : (si : Int) < (m2 : Int) := by omega
          have hjI : (j : Int) < (m2 : Int) := by omega
          have htg2 : t ≠ g2 := fun e => own_ne hown5 ht5 (by decide) (by rw [e]; rfl)
          have hx6 : si * 10 + 6 ≠ j * 10 + 6 := by omega
          have HR5 := Lib.hid hR5
          have HT5 := Lib.hid hT5
          have HL2 := Lib.hid hL2
          have HBT := Lib.hid hbkT
          have HQI := Lib.hid hqi
          have HQJ := Lib.hid hqj
          have HM2 := Lib.hid hm2
          clear c1 hown ht hRr p0 p1 p2 p3 p4 p5 p6 p7 p8 p9 a0 a1 a2 a3 a4 a5 hR5 hT5 hL2 hbkT hqi hqj hm2 hqil hqjl hbk2 hk1 hk2 hk3 bbr hown5 ht5 hiI
          have hoff : ∀ (W : World) (q : Nat) (u : Value), (W.setCell ⟨g2, q, none⟩ u).cell? ⟨t, 1, none⟩ = W.cell? ⟨t, 1, none⟩ := fun W q u => World.cell?_setCell_other _ _ _ _ (fun e => htg2 (congrArg Addr.block e).symm)
          have K0 : wc.drew.cell? ⟨t, 1, none⟩ = some (.slice (some ⟨g2, 0, none⟩) m2 cap2) := d1
          have K1 : ∀ q u, (wc.setCell ⟨g2, q, none⟩ u).drew.cell? ⟨t, 1, none⟩ = some (.slice (some ⟨g2, 0, none⟩) m2 cap2) := fun q u => (hoff wc q u).trans d1
          have K2 : ∀ q u q2 u2, ((wc.setCell ⟨g2, q, none⟩ u).setCell ⟨g2, q2, none⟩ u2).drew.cell? ⟨t, 1, none⟩ = some (.slice (some ⟨g2, 0, none⟩) m2 cap2) := fun q u q2 u2 => ((hoff _ q2 u2).trans (hoff wc q u)).trans d1
          have HK1 := Lib.hid K1
          have HK2 := Lib.hid K2
          clear hoff K1 K2
          go_wp2_with fail
          go_region_held3 (fun wx => wx.cell? ⟨t, 1, none⟩ = some (.slice (some ⟨g2, 0, none⟩) m2 cap2)) (first | with_reducible exact K0 | with_reducible exact HK1.out _ _ | with_reducible exact HK2.out _ _ _ _) (fail)
          have hqi := HQI.out
          have hqj := HQJ.out
          obtain ⟨R1, N1⟩ := (show Raw wc t (.slice (some ⟨g2, 0, none⟩) m2 cap2) vf2 mb room qs gr2 ri (n + 1) _ from by rw [HM2.out]; exact HR5.out).store [(6, .int .i64 (k : Int))] (by simp) (setUp k) hqi (by rfl)
          obtain ⟨R2, N2⟩ := R1.store [(6, .int .i64 (k : Int))] (by simp) (setUp k) (j := j) (x := ⟨b, -1, -1, -1, h⟩) (by rw [mod_other _ hij.symm]; exact hqj) (by rfl)
          simp only [wsets, List.foldl_cons, List.foldl_nil] at R1 N1 R2 N2
          have R6 := R2.drew
          have N6 := (N1.trans N2).drew
          clear R1 N1 R2 N2 K0 HK1 HK2 d1 i6 j6 fi6 fj6
          generalize ((wc.setCell _ _).setCell _ _).drew = w6 at *
          have hcl : ∀ x ∈ idxsC c, x < ((qs.modify si (setUp k)).modify j (setUp k)).length := fun x hx => by
            rw [List.length_modify, List.length_modify]
            exact (HL2.out.book HBT.out).1.2.1 x (by simp [hx])
          go_wp2_with fail
          refine (replace45_any t mb _ vf2 room _ gr2 ri (n + 1) _ c si k w6 R6 hcl (by rw [List.length_modify, List.length_modify]; omega)).mono ?_
          rintro e w7 ⟨rfl, qs3, root3, hRep, hR7, hM7⟩
          have hfit := fit_plug c (.leaf si h0 b0) (by rw [hpl.out]; exact hF)
          have hroot : (ri : Int) = (rootOf c si : Nat) := by
            have := plug_idx c (.leaf si h0 b0)
            rw [hpl.out, ← Hri.out] at this
            exact congrArg (fun x : Nat => (x : Int)) this
          have hMid := Mid.hung (ns := ms) (fr := gr) (root := ri) (b1 := b) (h1 := h) (h0 := h0) (b0 := b0) (by simp only [Hold]; exact HX1.out) HXC.out hfit.2 hroot (by
            have := HBT.out.1
            simp only [List.cons_append, List.nodup_cons] at this
            exact fun hm => this.1 (by simp only [List.mem_cons, List.mem_append] at hm ⊢; rcases hm with h1 | h1; exact .inl h1; exact .inr (.inl h1))) hj2 HBT.out HL2.out (cov_left b0 b) (cov_right b0 b) hRep
          have hl3 : qs3.length = m2 := by
            rw [HM2.out]
            cases c with
            | nil => obtain ⟨rfl, _⟩ := hRep; rw [List.length_modify, List.length_modify]
            | cons f c => obtain ⟨rfl, _⟩ := hRep; rw [List.length_modify, List.length_modify, List.length_modify]
          go_wp2_with fail
          refine (refit46_any t mb g2 m2 cap2 vf2 room qs3 gr2 root3 (n + 1) _ c _ w7 hR7 hMid hl3 (by have := HM2.out; omega)).mono ?_
          rintro e w8 ⟨rfl, qs4, hR8, hS8, hM8⟩
          go_wp2
          have hl8 := hR8.len
          have T5 := HT5.out
          rw [← HM2.out] at T5
          have F2 : ∀ (a b : World), Mod (Foot t (.slice (some ⟨g2, 0, none⟩) m2 cap2) vf2 mb) a b → Turn (Foot t (.slice (some ⟨g2, 0, none⟩) m2 cap2) vf2 mb) (Foot t (.slice (some ⟨g2, 0, none⟩) m2 cap2) vf2 mb) a b := fun a b hM => ⟨hM, fun _ h => .inl h⟩
          have TT := (((((T1.trans ⟨M2.mono (fun k _ hk => .inr (.inr (.inr hk))), fun k hk => .inl hk⟩).trans (Turn.of_below _ hBr)).trans T5).trans (F2 _ _ (N6.mono (fun k _ hk => .inr (.inl (by rw [hk]; rfl)))))).trans (F2 _ _ hM7)).trans (F2 _ _ hM8)
          refine bodyPost_end (v := .tuple #[]) (by simp [results, Try.f31, go_sem]) rfl ⟨rfl, qs4, gr2, root3, _, vf2, j, _, hR8, hS8, ?_, by rw [hl8, HM2.out]; exact hql, TT⟩
          have hp := plug_leaves c (.leaf si h0 b0)
          rw [hpl.out] at hp
          refine (refit_leaves c _).trans (List.Perm.trans ?_ (hp.symm.append_right _))
          simp only [T.leaves, List.cons_append, List.nil_append]
          exact ((List.perm_append_comm (l₁ := [(h, j, b)]) (l₂ := leavesC c))).cons _
      | node i b0 l r =>
        obtain rfl : si = i := hsi.out
        obtain ⟨li, hli⟩ : ∃ li, li = l.idx := ⟨_, rfl⟩
        obtain ⟨rj, hrj⟩ : ∃ rj, rj = r.idx := ⟨_, rfl⟩
        obtain ⟨⟨⟨hh0, x1⟩, xl, xr⟩, -⟩ := hHs
        obtain ⟨nl, hnl, hnlb, _⟩ := xl.at
        obtain ⟨nr, hnr, hnrb, _⟩ := xr.at
        obtain ⟨p0, p1, p2, p3, p4, p5, p6, p7, p8, p9⟩ := node_cells hown x1
        obtain ⟨l0, l1, l2, l3, l4, l5, _⟩ := node_cells hown hnl
        obtain ⟨r0, r1, r2, r3, r4, r5, _⟩ := node_cells hown hnr
        have hfl := (List.getElem?_eq_some_iff.1 x1).1
        have hll := (List.getElem?_eq_some_iff.1 hnl).1
        have hrl := (List.getElem?_eq_some_iff.1 hnr).1
        have hiI : (si : Int) < (m : Int) := by have := Hm.out; omega
        have hlI : (l.idx : Int) < (m : Int) := by have := Hm.out; omega
        have hrI : (r.idx : Int) < (m : Int) := by have := Hm.out; omega
        rw [← hli] at p7 l0 l1 l2 l3 l4 l5 hlI
        rw [← hrj] at p8 r0 r1 r2 r3 r4 r5 hrI
        have Hli := Lib.hid hli
        have Hrj := Lib.hid hrj
        obtain ⟨lb, hlb⟩ : ∃ lb, lb = l.box := ⟨_, rfl⟩
        obtain ⟨rb, hrb⟩ : ∃ rb, rb = r.box := ⟨_, rfl⟩
        rw [hnlb] at l0 l1 l2 l3 l4 l5
        rw [hnrb] at r0 r1 r2 r3 r4 r5
        rw [← hlb] at l0 l1 l2 l3 l4 l5
        rw [← hrb] at r0 r1 r2 r3 r4 r5
        have hl0 : (0 : Int) ≤ (li : Int) := by omega
        clear hlb hrb hli hrj x1 xl xr hnl hnr hnlb hnrb hfl hll hrl
        have htl := ht.lt
        have hgl := own_lt hown (r := g) rfl
        have W1b := Blk.newAt (w := wr) (b := wr.heap.size) rfl 79 (⟨b0, upOf c, li, rj, hh0⟩ : Nd).cells
        have HQ1 : Hid (∀ W, Below (wr.heap.size + 1) (wr.alloc (.cells (⟨b0, upOf c, li, rj, hh0⟩ : Nd).cells.toArray 79)) W → (fun wx => wx.cell? ⟨t, 1, none⟩ = some (.slice (some ⟨g, 0, none⟩) m cap) ∧ wx.cell? ⟨wr.heap.size, 7, none⟩ = some (.int .i64 li) ∧ wx.cell? ⟨wr.heap.size, 8, none⟩ = some (.int .i64 rj) ∧ wx.cell? ⟨g, li * 10, none⟩ = some (.int .i64 lb.x0) ∧ wx.cell? ⟨g, li * 10 + 1, none⟩ = some (.int .i64 lb.y0) ∧ wx.cell? ⟨g, li * 10 + 2, none⟩ = some (.int .i64 lb.z0) ∧ wx.cell? ⟨g, li * 10 + 3, none⟩ = some (.int .i64 lb.x1) ∧ wx.cell? ⟨g, li * 10 + 4, none⟩ = some (.int .i64 lb.y1) ∧ wx.cell? ⟨g, li * 10 + 5, none⟩ = some (.int .i64 lb.z1) ∧ wx.cell? ⟨g, rj * 10, none⟩ = some (.int .i64 rb.x0) ∧ wx.cell? ⟨g, rj * 10 + 1, none⟩ = some (.int .i64 rb.y0) ∧ wx.cell? ⟨g, rj * 10 + 2, none⟩ = some (.int .i64 rb.z0) ∧ wx.cell? ⟨g, rj * 10 + 3, none⟩ = some (.int .i64 rb.x1) ∧ wx.cell? ⟨g, rj * 10 + 4, none⟩ = some (.int .i64 rb.y1) ∧ wx.cell? ⟨g, rj * 10 + 5, none⟩ = some (.int .i64 rb.z1)) W) := Lib.hid fun W hB => ⟨(hB.cell (p := ⟨t, 1, none⟩) (by show t < _; omega)).trans ((World.cell?_alloc_past _ _ _ htl).trans c1), (hB.cell (p := ⟨wr.heap.size, 7, none⟩) (by show wr.heap.size < _; omega)).trans (W1b.cell 7), (hB.cell (p := ⟨wr.heap.size, 8, none⟩) (by show wr.heap.size < _; omega)).trans (W1b.cell 8), (hB.cell (p := ⟨g, li * 10, none⟩) (by show g < _; omega)).trans ((World.cell?_alloc_past _ _ _ hgl).trans l0), (hB.cell (p := ⟨g, li * 10 + 1, none⟩) (by show g < _; omega)).trans ((World.cell?_alloc_past _ _ _ hgl).trans l1), (hB.cell (p := ⟨g, li * 10 + 2, none⟩) (by show g < _; omega)).trans ((World.cell?_alloc_past _ _ _ hgl).trans l2), (hB.cell (p := ⟨g, li * 10 + 3, none⟩) (by show g < _; omega)).trans ((World.cell?_alloc_past _ _ _ hgl).trans l3), (hB.cell (p := ⟨g, li * 10 + 4, none⟩) (by show g < _; omega)).trans ((World.cell?_alloc_past _ _ _ hgl).trans l4), (hB.cell (p := ⟨g, li * 10 + 5, none⟩) (by show g < _; omega)).trans ((World.cell?_alloc_past _ _ _ hgl).trans l5), (hB.cell (p := ⟨g, rj * 10, none⟩) (by show g < _; omega)).trans ((World.cell?_alloc_past _ _ _ hgl).trans r0), (hB.cell (p := ⟨g, rj * 10 + 1, none⟩) (by show g < _; omega)).trans ((World.cell?_alloc_past _ _ _ hgl).trans r1), (hB.cell (p := ⟨g, rj * 10 + 2, none⟩) (by show g < _; omega)).trans ((World.cell?_alloc_past _ _ _ hgl).trans r2), (hB.cell (p := ⟨g, rj * 10 + 3, none⟩) (by show g < _; omega)).trans ((World.cell?_alloc_past _ _ _ hgl).trans r3), (hB.cell (p := ⟨g, rj * 10 + 4, none⟩) (by show g < _; omega)).trans ((World.cell?_alloc_past _ _ _ hgl).trans r4), (hB.cell (p := ⟨g, rj * 10 + 5, none⟩) (by show g < _; omega)).trans ((World.cell?_alloc_past _ _ _ hgl).trans r5)⟩
        have HF : Hid (∀ X Y : Bx, Blk (((wr.alloc (.cells (⟨b0, upOf c, li, rj, hh0⟩ : Nd).cells.toArray 79)).alloc (.cells X.cells.toArray 34)).alloc (.cells Y.cells.toArray 34)).drew (wr.heap.size + 1) 34 X.cells ∧ Blk (((wr.alloc (.cells (⟨b0, upOf c, li, rj, hh0⟩ : Nd).cells.toArray 79)).alloc (.cells X.cells.toArray 34)).alloc (.cells Y.cells.toArray 34)).drew (wr.heap.size + 1 + 1) 34 Y.cells ∧ Blk (((wr.alloc (.cells (⟨b0, upOf c, li, rj, hh0⟩ : Nd).cells.toArray 79)).alloc (.cells X.cells.toArray 34)).alloc (.cells Y.cells.toArray 34)).drew wr.heap.size 79 (⟨b0, upOf c, li, rj, hh0⟩ : Nd).cells ∧ Below w2.heap.size w2 (((wr.alloc (.cells (⟨b0, upOf c, li, rj, hh0⟩ : Nd).cells.toArray 79)).alloc (.cells X.cells.toArray 34)).alloc (.cells Y.cells.toArray 34)).drew) := Lib.hid fun X Y => ⟨((Blk.newAt (by simp) 34 X.cells).alloc _).drew, (Blk.newAt (by simp) 34 Y.cells).drew, ((W1b.alloc _).alloc _).drew, (((hBr.alloc hBr.size _).alloc (by have := hBr.size; simp; omega) _).alloc (by have := hBr.size; simp; omega) _).drew⟩
        go_upto_region 8 with (fail)
        go_cut [9, 10] (fun p9 p10 wx => ∃ b9 b10 : Nat, p9 = .pointer (some ⟨b9, 0, none⟩) ∧ p10 = .pointer (some ⟨b10, 0, none⟩) ∧ Blk wx b9 34 lb.cells ∧ Blk wx b10 34 rb.cells ∧ Blk wx wr.heap.size 79 (⟨b0, upOf c, li, rj, hh0⟩ : Nd).cells ∧ Below w2.heap.size w2 wx)
        case first =>
          go_region_held3 (fun wx => wx.cell? ⟨t, 1, none⟩ = some (.slice (some ⟨g, 0, none⟩) m cap) ∧ wx.cell? ⟨wr.heap.size, 7, none⟩ = some (.int .i64 li) ∧ wx.cell? ⟨wr.heap.size, 8, none⟩ = some (.int .i64 rj) ∧ wx.cell? ⟨g, li * 10, none⟩ = some (.int .i64 lb.x0) ∧ wx.cell? ⟨g, li * 10 + 1, none⟩ = some (.int .i64 lb.y0) ∧ wx.cell? ⟨g, li * 10 + 2, none⟩ = some (.int .i64 lb.z0) ∧ wx.cell? ⟨g, li * 10 + 3, none⟩ = some (.int .i64 lb.x1) ∧ wx.cell? ⟨g, li * 10 + 4, none⟩ = some (.int .i64 lb.y1) ∧ wx.cell? ⟨g, li * 10 + 5, none⟩ = some (.int .i64 lb.z1) ∧ wx.cell? ⟨g, rj * 10, none⟩ = some (.int .i64 rb.x0) ∧ wx.cell? ⟨g, rj * 10 + 1, none⟩ = some (.int .i64 rb.y0) ∧ wx.cell? ⟨g, rj * 10 + 2, none⟩ = some (.int .i64 rb.z0) ∧ wx.cell? ⟨g, rj * 10 + 3, none⟩ = some (.int .i64 rb.x1) ∧ wx.cell? ⟨g, rj * 10 + 4, none⟩ = some (.int .i64 rb.y1) ∧ wx.cell? ⟨g, rj * 10 + 5, none⟩ = some (.int .i64 rb.z1))
            (first | with_reducible exact HQ1.out _ ((Below.refl _ _).drew) | with_reducible exact HQ1.out _ (((Below.refl _ _).alloc (by simp) _).drew) | with_reducible exact HQ1.out _ ((((Below.refl _ _).alloc (by simp) _).alloc (by simp) _).drew)) (fail)
          all_goals
            go_wp2_with fail
            go_meet
            first
              | exact ⟨_, _, rfl, rfl, (HF.out lb rb).1, (HF.out lb rb).2.1, (HF.out lb rb).2.2⟩
              | exact ⟨_, _, rfl, rfl, (HF.out rb lb).2.1, (HF.out rb lb).1, (HF.out rb lb).2.2⟩
        case rest =>
          obtain ⟨b9, b10, rfl, rfl, hb9, hb10, hbn, hBc⟩ := hcut
          clear HF HQ1 W1b p0 p1 p2 p3 p4 p5 p6 p7 p8 p9 l0 l1 l2 l3 l4 l5 r0 r1 r2 r3 r4 r5 c1
          have l9 := hb9.lt
          have l10 := hb10.lt
          have lbn := hbn.lt
          have bbc := bb2.below hBc bl2
          have lbc := bbc.lt
          have n7 : _ = some (Value.int .i64 (li : Int)) := hbn.cell 7
          have n8 : _ = some (Value.int .i64 (rj : Int)) := hbn.cell 8
          have HQ2 : Hid (∀ W, Below wc.heap.size wc W → (fun wx => wx.cell? ⟨b9, 0, none⟩ = some (.int .i64 lb.x0) ∧ wx.cell? ⟨b9, 1, none⟩ = some (.int .i64 lb.y0) ∧ wx.cell? ⟨b9, 2, none⟩ = some (.int .i64 lb.z0) ∧ wx.cell? ⟨b9, 3, none⟩ = some (.int .i64 lb.x1) ∧ wx.cell? ⟨b9, 4, none⟩ = some (.int .i64 lb.y1) ∧ wx.cell? ⟨b9, 5, none⟩ = some (.int .i64 lb.z1) ∧ wx.cell? ⟨b10, 0, none⟩ = some (.int .i64 rb.x0) ∧ wx.cell? ⟨b10, 1, none⟩ = some (.int .i64 rb.y0) ∧ wx.cell? ⟨b10, 2, none⟩ = some (.int .i64 rb.z0) ∧ wx.cell? ⟨b10, 3, none⟩ = some (.int .i64 rb.x1) ∧ wx.cell? ⟨b10, 4, none⟩ = some (.int .i64 rb.y1) ∧ wx.cell? ⟨b10, 5, none⟩ = some (.int .i64 rb.z1) ∧ wx.cell? ⟨w.heap.size, 0, none⟩ = some (.int .i64 b.x0) ∧ wx.cell? ⟨w.heap.size, 1, none⟩ = some (.int .i64 b.y0) ∧ wx.cell? ⟨w.heap.size, 2, none⟩ = some (.int .i64 b.z0) ∧ wx.cell? ⟨w.heap.size, 3, none⟩ = some (.int .i64 b.x1) ∧ wx.cell? ⟨w.heap.size, 4, none⟩ = some (.int .i64 b.y1) ∧ wx.cell? ⟨w.heap.size, 5, none⟩ = some (.int .i64 b.z1)) W) := Lib.hid fun W hB => ⟨(hB.cell (p := ⟨b9, 0, none⟩) (by exact l9)).trans (hb9.cell 0), (hB.cell (p := ⟨b9, 1, none⟩) (by exact l9)).trans (hb9.cell 1), (hB.cell (p := ⟨b9, 2, none⟩) (by exact l9)).trans (hb9.cell 2), (hB.cell (p := ⟨b9, 3, none⟩) (by exact l9)).trans (hb9.cell 3), (hB.cell (p := ⟨b9, 4, none⟩) (by exact l9)).trans (hb9.cell 4), (hB.cell (p := ⟨b9, 5, none⟩) (by exact l9)).trans (hb9.cell 5), (hB.cell (p := ⟨b10, 0, none⟩) (by exact l10)).trans (hb10.cell 0), (hB.cell (p := ⟨b10, 1, none⟩) (by exact l10)).trans (hb10.cell 1), (hB.cell (p := ⟨b10, 2, none⟩) (by exact l10)).trans (hb10.cell 2), (hB.cell (p := ⟨b10, 3, none⟩) (by exact l10)).trans (hb10.cell 3), (hB.cell (p := ⟨b10, 4, none⟩) (by exact l10)).trans (hb10.cell 4), (hB.cell (p := ⟨b10, 5, none⟩) (by exact l10)).trans (hb10.cell 5), (hB.cell (p := ⟨w.heap.size, 0, none⟩) (by exact lbc)).trans (bbc.cell 0), (hB.cell (p := ⟨w.heap.size, 1, none⟩) (by exact lbc)).trans (bbc.cell 1), (hB.cell (p := ⟨w.heap.size, 2, none⟩) (by exact lbc)).trans (bbc.cell 2), (hB.cell (p := ⟨w.heap.size, 3, none⟩) (by exact lbc)).trans (bbc.cell 3), (hB.cell (p := ⟨w.heap.size, 4, none⟩) (by exact lbc)).trans (bbc.cell 4), (hB.cell (p := ⟨w.heap.size, 5, none⟩) (by exact lbc)).trans (bbc.cell 5)⟩
          go_wp2_with fail
          have HBc := (Below.refl wc.heap.size wc).drew
          go_region_held3 (fun wx => wx.cell? ⟨b9, 0, none⟩ = some (.int .i64 lb.x0) ∧ wx.cell? ⟨b9, 1, none⟩ = some (.int .i64 lb.y0) ∧ wx.cell? ⟨b9, 2, none⟩ = some (.int .i64 lb.z0) ∧ wx.cell? ⟨b9, 3, none⟩ = some (.int .i64 lb.x1) ∧ wx.cell? ⟨b9, 4, none⟩ = some (.int .i64 lb.y1) ∧ wx.cell? ⟨b9, 5, none⟩ = some (.int .i64 lb.z1) ∧ wx.cell? ⟨b10, 0, none⟩ = some (.int .i64 rb.x0) ∧ wx.cell? ⟨b10, 1, none⟩ = some (.int .i64 rb.y0) ∧ wx.cell? ⟨b10, 2, none⟩ = some (.int .i64 rb.z0) ∧ wx.cell? ⟨b10, 3, none⟩ = some (.int .i64 rb.x1) ∧ wx.cell? ⟨b10, 4, none⟩ = some (.int .i64 rb.y1) ∧ wx.cell? ⟨b10, 5, none⟩ = some (.int .i64 rb.z1) ∧ wx.cell? ⟨w.heap.size, 0, none⟩ = some (.int .i64 b.x0) ∧ wx.cell? ⟨w.heap.size, 1, none⟩ = some (.int .i64 b.y0) ∧ wx.cell? ⟨w.heap.size, 2, none⟩ = some (.int .i64 b.z0) ∧ wx.cell? ⟨w.heap.size, 3, none⟩ = some (.int .i64 b.x1) ∧ wx.cell? ⟨w.heap.size, 4, none⟩ = some (.int .i64 b.y1) ∧ wx.cell? ⟨w.heap.size, 5, none⟩ = some (.int .i64 b.z1))
            (with_reducible exact HQ2.out _ HBc)
            (first | (go_at_call 22; refine (join22_any _ _ _).mono ?_; rintro e w4 ⟨rfl, hB⟩; replace HBc := HBc.trans (hB.mono HBc.size)) | (go_at_call 44; refine (cost44_any _ _).mono ?_; rintro e w4 ⟨⟨k, rfl⟩, hB⟩; replace HBc := HBc.trans (hB.mono HBc.size)))
          have n7' := (HBc.cell (p := ⟨wr.heap.size, 7, none⟩) (by exact lbn)).trans n7
          have n8' := (HBc.cell (p := ⟨wr.heap.size, 8, none⟩) (by exact lbn)).trans n8
          have HB4 := Lib.hid (hBc.trans (HBc.mono hBc.size))
          clear n7 n8 HQ2 HBc hb9 hb10 hbn bbc hBc bbr hRr hown ht
          go_wp2
          · go_roundg l.nodes
            case measure => simp only [T.nodes]; omega
            case rel => exact ⟨⟨si, b0, true, r⟩ :: c, l, li, rfl, Lib.hid hpl.out, Hli, rfl, HB4.out⟩
          · go_roundg r.nodes
            case measure => simp only [T.nodes]; omega
            case rel => exact ⟨⟨si, b0, false, l⟩ :: c, r, rj, rfl, Lib.hid hpl.out, Hrj, rfl, HB4.out⟩
end Go.Proofs.Ytadfmhjnmmmalaa
