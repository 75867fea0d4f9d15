/- Trees: fell. -/
import Derived.Test.YtadfmhjnmmmalaaN4
namespace Go.Proofs.Ytadfmhjnmmmalaa
open Go.RowKit Go.Maps
theorem zero3 (w : World) : (zeroValue 3).run Try.prog w = .ok (.int .i64 0) w := by kernel_rfl
/-- A number more is free. -/
theorem Raw.freed {w w6 : World} {t : Nat} {vn vf : Value} {mb : Nat} {room : Int} {ns : List Nd} {fr : List Nat} {root : Int} {n : Nat} {D : DataW Unit} (h : Raw w t vn vf mb room ns fr root n D) (x gg k cap : Nat) (hk : k = fr.length)
    (o6 : w6.ownsRow 0 3 1 (.slice (some ⟨gg, 0, none⟩) (k + 1) cap) (k + 1) (ints (nats fr) ++ [.int .i64 (x : Int)])) (g6 : (w.alloc (.cells #[.int .i64 (x : Int)] 3)).grownBy w6 vf.ownBlock) (hat : vf.ownBlock = some gg ∨ gg = w.heap.size + 1) :
    Raw (w6.setCell ⟨t, 2, none⟩ (.slice (some ⟨gg, 0, none⟩) (k + 1) cap)) t vn (.slice (some ⟨gg, 0, none⟩) (k + 1) cap) mb room ns (fr ++ [x]) root n D ∧ Turn (Foot t vn vf mb) (Foot t vn (.slice (some ⟨gg, 0, none⟩) (k + 1) cap) mb) w (w6.setCell ⟨t, 2, none⟩ (.slice (some ⟨gg, 0, none⟩) (k + 1) cap)) := by
  obtain ⟨ht, hown, hfr, hmp⟩ := h
  have M6 : Mod (fun j => vf.ownBlock = some j) w w6 := ((Mod.refl _ w).alloc _).grown g6 (fun j hj _ => hj)
  have b6 := ht.mod M6 (own_ne hfr ht (by decide))
  have M7 : Mod (fun j => j = t ∨ vf.ownBlock = some j) w (w6.setCell ⟨t, 2, none⟩ (.slice (some ⟨gg, 0, none⟩) (k + 1) cap)) := (M6.mono (fun j _ hj => .inr hj)).setCell (p := ⟨t, 2, none⟩) (fun _ => .inl rfl) _
  refine ⟨⟨b6.set 2 _, ?_, ?_, ?_⟩, M7.mono (fun j _ hj => ?_), ?_⟩
  · exact own_modk hown M7 (fun j cur hj => by
      rcases hj with rfl | hj
      · exact (blk_not ht).1 cur 79 (by decide)
      · exact (own_not hfr hj).1 cur 79 (by decide))
  · rw [nats_snoc, ints_append, show (fr ++ [x]).length = k + 1 by simp [hk]]
    exact ownsRow_setCell_other (a := ⟨t, 2, none⟩) o6 (own_ne o6 b6 (by decide)) _
  · exact map_modk hmp M7 (fun j es c hj => by
      rcases hj with rfl | hj
      · exact (blk_not ht).2 es c
      · exact (own_not hfr hj).2 es c)
  · rcases hj with rfl | hj
    · exact .inl rfl
    · exact .inr (.inr (.inl hj))
  · rintro j (rfl | hj | hj | rfl)
    · exact .inl (.inl rfl)
    · exact .inl (.inr (.inl hj))
    · simp only [Value.ownBlock, Option.some.injEq] at hj
      subst hj
      rcases hat with h6 | h6
      · exact .inl (.inr (.inr (.inl h6)))
      · exact .inr (by omega)
    · exact .inl (.inr (.inr (.inr rfl)))
theorem Raw.alloc {w : World} {t : Nat} {vn vf : Value} {mb : Nat} {room : Int} {ns : List Nd} {fr : List Nat} {root : Int} {n : Nat} {D : DataW Unit} (h : Raw w t vn vf mb room ns fr root n D) (o : Obj) : Raw (w.alloc o) t vn vf mb room ns fr root n D := h.below ((Below.refl _ _).alloc (Nat.le_refl _) _)
theorem Mid.felled {ns qs : List Nd} {fr : List Nat} {root root' : Int} {f : Fr} {c : List Fr} {i : Nat} {h0 : Int} {b0 : Bx} (h : Mid ns fr root (f :: c) (.leaf i h0 b0)) (hr : ReplN c f.i f.sib.idx (ns.modify f.sib.idx (setUp (upOf c))) root qs root') : Mid qs (fr ++ [i] ++ [f.i]) root' c f.sib := by
  obtain ⟨qs2, r2, hm, hM⟩ := h.fell
  cases c with
  | nil =>
    obtain ⟨rfl, rfl⟩ := hm
    obtain ⟨rfl, rfl⟩ := hr
    exact hM
  | cons g c =>
    obtain ⟨rfl, rfl⟩ := hm
    obtain ⟨rfl, rfl⟩ := hr
    exact hM
/-- What fell leaves. -/
def FellP (t mb : Nat) (vn vf : Value) (room : Int) (ns : List Nd) (n : Nat) (D : DataW Unit) (T0 : T) (h : Int) (i : Nat) (b : Bx) (w : World) (e : Ending) (w' : World) : Prop :=
  e = .returned (.tuple #[]) ∧ ∃ ms gr root' vn' vf' o, Raw w' t vn' vf' mb room ms gr root' n (D.del (.int .i64 h)) ∧ St ms gr root' o ∧ ((oleaves o) ++ [(h, i, b)]).Perm T0.leaves ∧ ms.length = ns.length ∧ Turn (Foot t vn vf mb) (Foot t vn' vf' mb) w w'
set_option maxRecDepth 100000 in
set_option maxHeartbeats 4000000 in
theorem fell35_any (t mb : Nat) (vn vf : Value) (room : Int) (ns : List Nd) (fr : List Nat) (root : Int) (n : Nat) (D : DataW Unit) (T0 : T) (h : Int) (i : Nat) (b : Bx) (w : World) (hR : Raw w t vn vf mb room ns fr root n D) (hS : St ns fr root (some T0)) (hh : In64 h) (hns : ns.length ≤ 2048) (hm : (h, i, b) ∈ T0.leaves)
    (htie : ∀ z, D.atKey (.int .i64 h) z = .lit (.int .i64 (i : Int))) :
    Calls Try.prog 35 #[.pointer (some ⟨t, 0, none⟩), .int .i64 h] w (FellP t mb vn vf room ns n D T0 h i b w) := by
  obtain ⟨c, hpl⟩ := T0.find _ hm []
  simp only [plug] at hpl
  have hMid := (show St ns fr root (some (plug c (.leaf i h b))) by rw [← hpl]; exact hS).mid
  have hbk := hS.2.1
  have hfrn : fr.length ≤ 2048 := by have := hbk.2.2; rw [List.length_append] at this; omega
  obtain ⟨x1, xc, -⟩ := id hMid
  simp only [Hold] at x1
  have hil := (List.getElem?_eq_some_iff.1 x1).1
  obtain ⟨g, cap, hvn⟩ := hR.nodes (fun e => by rw [e] at hil; cases hil)
  subst hvn
  obtain ⟨m, hmm⟩ : ∃ m, m = ns.length := ⟨_, rfl⟩
  obtain ⟨k, hk⟩ : ∃ k, k = fr.length := ⟨_, rfl⟩
  rw [← hmm] at hR hil hns
  rw [← hk] at hfrn
  obtain ⟨i0, hi, hz0, hz1, hz2⟩ := info_parts info3
  have hfr0 := hR.2.2.1
  rw [← hk] at hfr0
  obtain ⟨fa, fc, rfl, hfa1, hfa2⟩ := (Rd.of_own hfr0).shape
  have hmap := hR.2.2.2
  have ht := hR.1
  have d4 := ht.cell 4
  simp only [List.getElem?_cons_zero, List.getElem?_cons_succ] at d4
  have HX1 := Lib.hid x1
  have HM := Lib.hid hMid
  have HP := Lib.hid hpl
  have Hmm := Lib.hid hmm
  have Hk := Lib.hid hk
  have hiI : (i : Int) < (m : Int) := by omega
  have Htie := Lib.hid htie
  clear x1 hMid hpl hmm hk htie xc hm hbk
  go_enter Try.func35, Try.ntmps35
  go_upto_region 3 with (first
    | (at_lookup; refine wpList_lookup_own_int _ rfl _ _ 69 rfl 30 3 .i64 law30 Try.underlying69 Try.underlying3 (zero3 _) mb n _ rfl hmap _ _ rfl (key30 hh) ?_; intro cc hat hwc; obtain rfl : (i : Int) = cc := (by have h9 := (Htie.out _).symm.trans hat; injection h9 with h9; injection h9))
    | (at_delete; refine wpList_delete_own _ rfl _ _ 69 30 rfl 3 law30 Try.underlying69 _ mb n D rfl hmap _ _ rfl (key30 hh) ?_; intro w1 hown1 hturn1; obtain ⟨hR1, M1⟩ := hR.map hown1 hturn1.grown; have c2 := hR1.1.cell 2; simp only [List.getElem?_cons_zero, List.getElem?_cons_succ] at c2; have hfr1 := hR1.2.2.1; rw [← Hk.out] at hfr1)
    | (at_builtin; refine wpList_append_lies _ rfl _ _ 49 rfl 0 3 i0 (.int .i64 0) 1 8 Try.underlying49 hi hz0 hz1 hz2 rfl (by decide) _ k (ints (nats fr)) rfl (hfr1.alloc _) ⟨w1.heap.size, 0, none⟩ 1 1 [.int .i64 (i : Int)] rfl rfl (cell_one_new _ _ _) (by simp [Value.oneCell']) (by omega) (by unfold maxLen; omega) (by omega) (Nat.zero_le _) (w1.heap.size + 1) (by simp) ?_; intro gg cap6 w6 o6 g6 hat6 hlt6; obtain ⟨hR6, T6⟩ := hR1.freed i gg k cap6 Hk.out o6 g6 hat6; have b6 := (hR1.1.alloc (.cells #[.int .i64 (i : Int)] 3)).grown g6 (own_ne (hfr1.alloc (.cells #[.int .i64 (i : Int)] 3)) (hR1.1.alloc _) (by decide)); have c6 := b6.cell 2; have k6 := b6.frozen 2; simp only [List.getElem?_cons_zero, List.getElem?_cons_succ] at c6))
  have T7 := (Turn.trans (⟨M1.mono (fun j _ hj => .inr (.inr (.inr hj))), fun j hj => .inl hj⟩ : Turn (Foot t (.slice (some ⟨g, 0, none⟩) m cap) (.slice fa k fc) mb) (Foot t (.slice (some ⟨g, 0, none⟩) m cap) (.slice fa k fc) mb) w w1) T6)
  clear c6 k6 c2 hfr1 b6 hlt6 hat6 g6 o6 hown1 hturn1 hR1 hat hwc ht d4 hmap hfr0
  rw [← Hmm.out]
  generalize w6.setCell _ _ = w7 at *
  have ht := hR6.1
  have c1 := ht.cell 1
  have c3 := ht.cell 3
  have k3 := ht.frozen 3
  simp only [List.getElem?_cons_zero, List.getElem?_cons_succ] at c1 c3
  have hown := hR6.2.1
  rw [← Hmm.out] at hown
  obtain ⟨_, _, _, _, _, _, p6, _⟩ := node_cells hown HX1.out
  have htg : t ≠ g := fun e => own_ne hown ht (by decide) (by rw [e]; rfl)
  cases c with
  | nil =>
    simp only [upOf] at p6
    go_wp2
    have hbk := HM.out.2.2.1
    have hR8 := hR6.root (-1)
    refine bodyPost_ret (v := .tuple #[]) (by simp [results, Try.f35, go_sem]) rfl ⟨rfl, ns, fr ++ [i], -1, _, _, none, hR8, ⟨Book.free hbk, rfl⟩, by rw [HP.out]; exact List.Perm.refl _, rfl, T7.trans ⟨(Mod.refl _ w7).setCell (p := ⟨t, 3, none⟩) (fun _ => .inl rfl) _, fun j hj => .inl hj⟩⟩
  | cons f c =>
    simp only [upOf] at p6
    obtain ⟨_, ⟨⟨hh0, xf⟩, xs, xcc⟩, -⟩ := id HM.out
    obtain ⟨sn, hsn, _, _⟩ := xs.at
    obtain ⟨q0, q1, q2, q3, q4, q5, q6, q7, q8, q9⟩ := node_cells hown xf
    obtain ⟨_, _, _, _, _, _, s6, _⟩ := node_cells hown hsn
    obtain ⟨_, _, _, _, _, _, f6, _⟩ := node_frozen hown (j := f.sib.idx)
    have hfl := (List.getElem?_eq_some_iff.1 xf).1
    have hsl := (List.getElem?_eq_some_iff.1 hsn).1
    have hfI : (f.i : Int) < (m : Int) := by have := Hmm.out; omega
    have hsI : (f.sib.idx : Int) < (m : Int) := by have := Hmm.out; omega
    have hf0 : ¬ (f.i : Int) < 0 := by omega
    have hsi : f.sib.idx ≠ i := by
      have := (List.nodup_append.1 HM.out.2.2.1.1).1
      simp only [T.idxs, List.singleton_append, idxsC, List.nodup_cons, List.mem_cons, List.mem_append, not_or] at this
      exact fun e => this.1.2.1 (by rw [← e]; exact f.sib.idx_mem)
    obtain ⟨si, hsid⟩ : ∃ si, si = f.sib.idx := ⟨_, rfl⟩
    rw [← hsid] at s6 f6 hsI hsi
    have Hsid := Lib.hid hsid
    have HXF := Lib.hid xf
    have HSN := Lib.hid hsn
    clear hsid xf xs xcc hsn hfl hsl c3 k3
    have hseq : ((si : Int) == (i : Int)) = false := by simp; omega
    obtain ⟨L, R, hLR, q7', q8'⟩ : ∃ L R : Int, ((L = (i : Int) ∧ R = (si : Int)) ∨ (L = (si : Int) ∧ R = (i : Int))) ∧ w7.cell? ⟨g, f.i * 10 + 7, none⟩ = some (.int .i64 L) ∧ w7.cell? ⟨g, f.i * 10 + 8, none⟩ = some (.int .i64 R) := by
      cases hs : f.s with
      | true =>
        simp only [hs, if_true] at q7 q8
        rw [← Hsid.out] at q8
        exact ⟨_, _, .inl ⟨rfl, rfl⟩, q7, q8⟩
      | false =>
        simp only [hs, Bool.false_eq_true, if_false] at q7 q8
        rw [← Hsid.out] at q7
        exact ⟨_, _, .inr ⟨rfl, rfl⟩, q7, q8⟩
    clear q7 q8
    have hii : ((i : Int) == (i : Int)) = true := by simp
    have hR7 := hR6.alloc (.cells (⟨f.b, upOf c, L, R, hh0⟩ : Nd).cells.toArray 79)
    have B8 : Below w7.heap.size w7 (w7.alloc (.cells (⟨f.b, upOf c, L, R, hh0⟩ : Nd).cells.toArray 79)) := (Below.refl _ _).alloc (Nat.le_refl _) _
    have hii : ((i : Int) == (i : Int)) = true := by simp
    have hR7 := hR6.alloc (.cells (⟨f.b, upOf c, L, R, hh0⟩ : Nd).cells.toArray 79)
    have B8 : Below w7.heap.size w7 (w7.alloc (.cells (⟨f.b, upOf c, L, R, hh0⟩ : Nd).cells.toArray 79)) := (Below.refl _ _).alloc (Nat.le_refl _) _
    have hii : ((i : Int) == (i : Int)) = true := by simp
    have hR7 := hR6.alloc (.cells (⟨f.b, upOf c, L, R, hh0⟩ : Nd).cells.toArray 79)
    have B8 : Below w7.heap.size w7 (w7.alloc (.cells (⟨f.b, upOf c, L, R, hh0⟩ : Nd).cells.toArray 79)) := (Below.refl _ _).alloc (Nat.le_refl _) _
    have hii : ((i : Int) == (i : Int)) = true := by simp
    have hR7 := hR6.alloc (.cells (⟨f.b, upOf c, L, R, hh0⟩ : Nd).cells.toArray 79)
    have B8 : Below w7.heap.size w7 (w7.alloc (.cells (⟨f.b, upOf c, L, R, hh0⟩ : Nd).cells.toArray 79)) := (Below.refl _ _).alloc (Nat.le_refl _) _
    have hii : ((i : Int) == (i : Int)) = true := by simp
    have hR7 := hR6.alloc (.cells (⟨f.b, upOf c, L, R, hh0⟩ : Nd).cells.toArray 79)
    have B8 : Below w7.heap.size w7 (w7.alloc (.cells (⟨f.b, upOf c, L, R, hh0⟩ : Nd).cells.toArray 79)) := (Below.refl _ _).alloc (Nat.le_refl _) _
    have hii : ((i : Int) == (i : Int)) = true := by simp
    have hR7 := hR6.alloc (.cells (⟨f.b, upOf c, L, R, hh0⟩ : Nd).cells.toArray 79)
    have B8 : Below w7.heap.size w7 (w7.alloc (.cells (⟨f.b, upOf c, L, R, hh0⟩ : Nd).cells.toArray 79)) := (Below.refl _ _).alloc (Nat.le_refl _) _
    have N7 := Blk.newAt (w := w7) (b := w7.heap.size) rfl 79 (⟨f.b, upOf c, L, R, hh0⟩ : Nd).cells
    have gA : ∃ W, w7.alloc (.cells (⟨f.b, upOf c, L, R, hh0⟩ : Nd).cells.toArray 79) = W := ⟨_, rfl⟩
    rcases hLR with ⟨rfl, rfl⟩ | ⟨rfl, rfl⟩
    all_goals
      go_wp2
      have hR8 := hR7
      have B9 := B8
      have N8 := N7
      obtain ⟨w8, hw8⟩ := gA
      rw [hw8] at hR8 B9 N8
      change Code.wp _ _ _ _ (w7.alloc (.cells (⟨f.b, upOf c, _, _, hh0⟩ : Nd).cells.toArray 79))
      rw [hw8]
      clear hw8 hR7 B8 N7 c1 q0 q1 q2 q3 q4 q5 q6 q7' q8' s6 f6 ht hown
      have ht := hR8.1
      have c1 := ht.cell 1
      simp only [List.getElem?_cons_zero, List.getElem?_cons_succ] at c1
      have hown := hR8.2.1
      rw [← Hmm.out] at hown
      have hsn' : ns[si]? = some sn := by rw [Hsid.out]; exact HSN.out
      obtain ⟨_, _, _, _, _, _, s6, _⟩ := node_cells hown hsn'
      obtain ⟨_, _, _, _, _, _, f6, _⟩ := node_frozen hown (j := si)
      have n6 : _ = some (Value.int .i64 (upOf c)) := N8.cell 6
      have HSN2 := Lib.hid hsn'
      clear hsn'
      refine wp_region_still_tail 9 (by kernel_rfl) (by kernel_rfl) ?_
      simp only [List.take_succ_cons, List.take_zero, List.drop_succ_cons, List.drop_zero]
      change wpStill _ _ w8.drew _ _ _
      repeat still_step
      refine wpStill_nil ?_
      change wpList _ _ _ _ _ w8.drew
      obtain ⟨hR9, M9⟩ := (show Raw w8 t (.slice (some ⟨g, 0, none⟩) m cap) _ mb room ns (fr ++ [i]) root n _ from by rw [Hmm.out] at hR8 ⊢; exact hR8).store [(6, .int .i64 (upOf c))] (by simp) (setUp (upOf c)) HSN2.out (by rfl)
      simp only [wsets, List.foldl_cons, List.foldl_nil] at hR9 M9
      have hgw : g ≠ w7.heap.size := fun e => by have := own_lt hR6.2.1 (r := g) rfl; omega
      have N9 := N8.setCell_ne (p := ⟨g, si * 10 + 6, none⟩) (by first | exact hgw | exact Ne.symm hgw) (.int .i64 (upOf c))
      go_upto_region 11 with (fail)
      have hR10 := hR9.drew
      have M10 := M9.drew
      have N10 := N9.drew
      clear hR9 M9 N9 c1 ht hown s6 f6 n6
      generalize (w8.setCell _ _).drew = w9 at *
      have n6 : _ = some (Value.int .i64 (upOf c)) := N10.cell 6
      have hcl : ∀ x ∈ idxsC c, x < (ns.modify si (setUp (upOf c))).length := fun x hx => by
        rw [List.length_modify]
        exact HM.out.2.2.1.2.1 x (by simp [idxsC, hx])
      go_wp2_with fail
      refine (replace45_any t mb _ _ room _ _ root n _ c f.i si w9 hR10 hcl (by rw [List.length_modify, ← Hmm.out]; omega)).mono ?_
      rintro e w10 ⟨rfl, qs, root', hRep, hR11, hM11⟩
      have hFl : ∀ j, Foot t (.slice (some ⟨g, 0, none⟩) m cap) (.slice (some ⟨gg, 0, none⟩) (k + 1) cap6) mb j → j < w7.heap.size := fun j hj => hR6.lt j hj
      have N11 := N10.mod hM11 (fun hf => by have := hFl _ hf; omega)
      have c2 := hR11.1.cell 2
      simp only [List.getElem?_cons_zero, List.getElem?_cons_succ] at c2
      have hfr11 := hR11.2.2.1
      have hk1 : k + 1 = (fr ++ [i]).length := by rw [Hk.out]; simp
      rw [← hk1] at hfr11
      have hs10 := hM11.size
      have hs9 := M10.size
      have hs8 := B9.size
      have HM11 := Lib.hid hM11
      have hk2 : k + 1 ≤ 2049 := by omega
      have HK1 := Lib.hid hk1
      clear n6 hM11 hk1
      go_upto_region 13 with (at_builtin; refine wpList_append_lies _ rfl _ _ 49 rfl 0 3 i0 (.int .i64 0) 1 8 Try.underlying49 hi hz0 hz1 hz2 rfl (by decide) _ (k + 1) (ints (nats (fr ++ [i]))) rfl (hfr11.alloc _) ⟨w10.heap.size, 0, none⟩ 1 1 [.int .i64 (f.i : Int)] rfl rfl (cell_one_new _ _ _) (by simp [Value.oneCell']) (by omega) (by unfold maxLen; omega) (by omega) (Nat.zero_le _) (w10.heap.size + 1) (by simp) ?_; intro gg2 cap7 w12 o12 g12 hat12 hlt12; obtain ⟨hR12, T12⟩ := hR11.freed f.i gg2 (k + 1) cap7 HK1.out o12 g12 hat12; have b12 := (hR11.1.alloc (.cells #[.int .i64 (f.i : Int)] 3)).grown g12 (own_ne (hfr11.alloc (.cells #[.int .i64 (f.i : Int)] 3)) (hR11.1.alloc _) (by decide)); have c12 := b12.cell 2; have k12 := b12.frozen 2; simp only [List.getElem?_cons_zero, List.getElem?_cons_succ] at c12)
      clear c12 k12 b12 hlt12 hat12 g12 o12 hfr11 c2
      generalize w12.setCell _ _ = w13 at *
      have N13 := N11.mod T12.1 (fun hf => by have := hR11.lt _ hf; have h2 := hFl w7.heap.size (by exact hf); omega)
      have n6 : _ = some (Value.int .i64 (upOf c)) := N13.cell 6
      have hql : qs.length = m := by
        rw [Hmm.out]
        cases c with
        | nil => obtain ⟨rfl, _⟩ := hRep; rw [List.length_modify]
        | cons f c => obtain ⟨rfl, _⟩ := hRep; rw [List.length_modify, List.length_modify]
      have hMid := Mid.felled (i := i) (h0 := h) (b0 := b) HM.out (by rw [← Hsid.out]; exact hRep)
      go_wp2_with fail
      refine (refit46_any t mb g m cap _ room qs _ root' n _ c f.sib w13 hR12 hMid hql (by omega)).mono ?_
      rintro e w14 ⟨rfl, qs4, hR14, hS14, hM14⟩
      go_wp2
      have hl14 := hR14.len
      have TT := ((((T7.trans (Turn.of_below _ B9)).trans (⟨M10.mono (fun j _ hj => .inr (.inl (by rw [hj]; rfl))), fun j hj => .inl hj⟩ : Turn (Foot t (.slice (some ⟨g, 0, none⟩) m cap) (.slice (some ⟨gg, 0, none⟩) (k + 1) cap6) mb) (Foot t (.slice (some ⟨g, 0, none⟩) m cap) (.slice (some ⟨gg, 0, none⟩) (k + 1) cap6) mb) w8 w9)).trans (⟨HM11.out, fun j hj => .inl hj⟩ : Turn _ (Foot t (.slice (some ⟨g, 0, none⟩) m cap) (.slice (some ⟨gg, 0, none⟩) (k + 1) cap6) mb) w9 w10)).trans T12).trans (⟨hM14, fun j hj => .inl hj⟩ : Turn _ (Foot t (.slice (some ⟨g, 0, none⟩) m cap) (.slice (some ⟨gg2, 0, none⟩) (k + 1 + 1) cap7) mb) w13 w14)
      refine bodyPost_end (v := .tuple #[]) (by simp [results, Try.f35, go_sem]) rfl ⟨rfl, qs4, _, root', _, _, some (refitT c f.sib), hR14, hS14, ?_, by rw [hl14, Hmm.out], TT⟩
      have hp := plug_leaves (f :: c) (.leaf i h b)
      rw [← HP.out] at hp
      refine ((refit_leaves c f.sib).append_right _).trans (List.Perm.trans ?_ hp.symm)
      exact List.perm_append_comm
end Go.Proofs.Ytadfmhjnmmmalaa
