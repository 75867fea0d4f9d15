/- Trees: a place for a node. -/
import Derived.Test.YtadfmhjnmmmalaaN1
import Derived.StillTailTactics
namespace Go.Proofs.Ytadfmhjnmmmalaa
open Go.RowKit Go.Maps
theorem info3 : (Try.prog.info? 3).map (fun i => (i.zero, i.size, i.bytes)) = some (some (.int .i64 0), 1, 8) := by kernel_rfl
theorem info79 : (Try.prog.info? 79).map (fun i => (i.zero, i.size, i.bytes)) = some (some (.agg #[.int .i64 0, .int .i64 0, .int .i64 0, .int .i64 0, .int .i64 0, .int .i64 0, .int .i64 0, .int .i64 0, .int .i64 0, .int .i64 0]), 10, 80) := by kernel_rfl
/-- What lay does. -/
def LayP (t mb : Nat) (vn vf : Value) (room : Int) (ns : List Nd) (fr : List Nat) (root : Int) (n : Nat) (D : DataW Unit) (nd : Nd) (w : World) (e : Ending) (w' : World) : Prop :=
  ∃ j ms gr vn' vf', e = .returned (.int .i64 ((j : Nat) : Int)) ∧ LaidN ns fr nd j ms gr ∧ Raw w' t vn' vf' mb room ms gr root n D ∧ Turn (Foot t vn vf mb) (Foot t vn' vf' mb) w w'
theorem nats_snoc (gr : List Nat) (j : Nat) : nats (gr ++ [j]) = nats gr ++ [(j : Int)] := by simp [nats]
theorem nats_len (gr : List Nat) : (nats gr).length = gr.length := by simp [nats]
theorem ints_append (a b : List Int) : ints (a ++ b) = ints a ++ ints b := by simp [ints]
/-- A slice of one's own, cut behind. -/
theorem own_cut {w : World} {base e sz g n m cap : Nat} {xs : List Value} (h : w.ownsRow base e sz (.slice (some ⟨g, 0, none⟩) n cap) n xs) (hm : m ≤ n) : w.ownsRow base e sz (.slice (some ⟨g, 0, none⟩) m cap) m (xs.take (m * sz)) := by
  obtain ⟨h1, h2⟩ := h
  have h3 : m * sz ≤ n * sz := Nat.mul_le_mul_right _ hm
  refine ⟨by rw [List.length_take, h1]; omega, .inr ?_⟩
  rcases h2 with ⟨h0, _⟩ | ⟨g', cap', cur, hv, hg, hh, hn, hmx, hs, hx⟩
  · cases h0
  · cases hv
    exact ⟨g, cap, cur, rfl, hg, hh, Nat.le_trans hm hn, hmx, hs, by rw [← hx, List.take_take, Nat.min_eq_left h3]⟩
theorem modify_const (ns : List Nd) (j : Nat) (nd : Nd) : (ns.modify j fun _ => nd) = ns.set j nd := by
  apply List.ext_getElem?
  intro i
  rw [List.getElem?_modify, List.getElem?_set]
  by_cases h : j = i
  · subst h
    simp only [if_true]
    by_cases h2 : j < ns.length
    · simp [h2]
    · simp [h2]
  · simp [h]
theorem wsets_mod : ∀ (us : List (Nat × Value)) (g k : Nat) (w : World), Mod (fun j => j = g) w (wsets w g k us)
  | [], _, _, w => Mod.refl _ w
  | p :: us, g, k, w => ((Mod.refl (fun j => j = g) w).setCell (p := ⟨g, k + p.1, none⟩) (fun _ => rfl) p.2).trans (wsets_mod us g k _)
def nodeSets (nd : Nd) : List (Nat × Value) := [(0, .int .i64 nd.b.x0), (1, .int .i64 nd.b.y0), (2, .int .i64 nd.b.z0), (3, .int .i64 nd.b.x1), (4, .int .i64 nd.b.y1), (5, .int .i64 nd.b.z1), (6, .int .i64 nd.up), (7, .int .i64 nd.left), (8, .int .i64 nd.right), (9, .int .i64 nd.h)]
/-- The cells of a node. -/
theorem node_cells {w : World} {base g n cap j : Nat} {ns : List Nd} {x : Nd} (h : w.ownsRow base 79 10 (.slice (some ⟨g, 0, none⟩) n cap) n (flat ns)) (hx : ns[j]? = some x) :
    w.cell? ⟨g, j * 10, none⟩ = some (.int .i64 x.b.x0) ∧ w.cell? ⟨g, j * 10 + 1, none⟩ = some (.int .i64 x.b.y0) ∧ w.cell? ⟨g, j * 10 + 2, none⟩ = some (.int .i64 x.b.z0) ∧ w.cell? ⟨g, j * 10 + 3, none⟩ = some (.int .i64 x.b.x1) ∧ w.cell? ⟨g, j * 10 + 4, none⟩ = some (.int .i64 x.b.y1) ∧ w.cell? ⟨g, j * 10 + 5, none⟩ = some (.int .i64 x.b.z1) ∧ w.cell? ⟨g, j * 10 + 6, none⟩ = some (.int .i64 x.up) ∧ w.cell? ⟨g, j * 10 + 7, none⟩ = some (.int .i64 x.left) ∧ w.cell? ⟨g, j * 10 + 8, none⟩ = some (.int .i64 x.right) ∧ w.cell? ⟨g, j * 10 + 9, none⟩ = some (.int .i64 x.h) := by
  have hl := h.1
  rw [nflat_len] at hl
  have hj := (List.getElem?_eq_some_iff.1 hx).1
  have key : ∀ c, c < 10 → w.cell? ⟨g, j * 10 + c, none⟩ = x.cells[c]? := fun c hc => by
    have := (Rd.of_own h).at (i := j * 10 + c) (by omega)
    rw [Nat.zero_add] at this
    rw [this, nflat_get c hx hc]
  exact ⟨key 0 (by decide), key 1 (by decide), key 2 (by decide), key 3 (by decide), key 4 (by decide), key 5 (by decide), key 6 (by decide), key 7 (by decide), key 8 (by decide), key 9 (by decide)⟩
theorem own_unfrozen {w : World} {base e n sz g cap : Nat} {xs : List Value} (h : w.ownsRow base e sz (.slice (some ⟨g, 0, none⟩) n cap) n xs) (k : Nat) : w.frozen? ⟨g, k, none⟩ = false := by
  obtain ⟨cur, hh⟩ := own_cells h (g := g) rfl
  have hB : Blk w g e cur.toList := by unfold Blk; rw [hh]
  exact hB.frozen k
theorem node_frozen {w : World} {base g n cap j : Nat} {ns : List Nd} (h : w.ownsRow base 79 10 (.slice (some ⟨g, 0, none⟩) n cap) n (flat ns)) :
    w.frozen? ⟨g, j * 10, none⟩ = false ∧ w.frozen? ⟨g, j * 10 + 1, none⟩ = false ∧ w.frozen? ⟨g, j * 10 + 2, none⟩ = false ∧ w.frozen? ⟨g, j * 10 + 3, none⟩ = false ∧ w.frozen? ⟨g, j * 10 + 4, none⟩ = false ∧ w.frozen? ⟨g, j * 10 + 5, none⟩ = false ∧ w.frozen? ⟨g, j * 10 + 6, none⟩ = false ∧ w.frozen? ⟨g, j * 10 + 7, none⟩ = false ∧ w.frozen? ⟨g, j * 10 + 8, none⟩ = false ∧ w.frozen? ⟨g, j * 10 + 9, none⟩ = false :=
  ⟨own_unfrozen h _, own_unfrozen h _, own_unfrozen h _, own_unfrozen h _, own_unfrozen h _, own_unfrozen h _, own_unfrozen h _, own_unfrozen h _, own_unfrozen h _, own_unfrozen h _⟩
set_option maxRecDepth 100000 in
set_option maxHeartbeats 2000000 in
theorem lay_more (t mb : Nat) (vn vf : Value) (room : Int) (ns : List Nd) (root : Int) (n : Nat) (D : DataW Unit) (nd : Nd) (w : World) (h : Raw w t vn vf mb room ns [] root n D) (hn : ns.length ≤ 4096) :
    Calls Try.prog 43 #[.pointer (some ⟨t, 0, none⟩), ndV nd] w (LayP t mb vn vf room ns [] root n D nd w) := by
  obtain ⟨ht, hown, hfr, hmp⟩ := h
  obtain ⟨i0, hi, hz0, hz1, hz2⟩ := info_parts info79
  obtain ⟨m, hm⟩ : ∃ m, m = ns.length := ⟨_, rfl⟩
  rw [← hm] at hown hn
  obtain ⟨va, vc, rfl, v1, v2⟩ := (Rd.of_own hown).shape
  obtain ⟨fa, fc, rfl, f1, f2⟩ := (Rd.of_own hfr).shape
  have hb1 := ht.alloc (.cells #[.int .i64 nd.b.x0, .int .i64 nd.b.y0, .int .i64 nd.b.z0, .int .i64 nd.b.x1, .int .i64 nd.b.y1, .int .i64 nd.b.z1, .int .i64 nd.up, .int .i64 nd.left, .int .i64 nd.right, .int .i64 nd.h] 79)
  have c1 := ht.cell 1
  have c2 := ht.cell 2
  have k1 := ht.frozen 1
  simp only [List.getElem?_cons_zero, List.getElem?_cons_succ, List.length_nil] at c1 c2
  have htl := ht.lt
  have Hm := Lib.hid hm
  clear hm
  go_enter Try.func43, Try.ntmps43
  go_wp2
  go_region_law (refine step_append_lies _ (by rfl) _ _ _ (by rfl) 0 79 i0 _ 10 80 Try.underlying70 hi hz0 hz1 hz2 rfl (by decide) _ m (flat ns) (by rfl) (((hown.alloc _).alloc _).drew) ⟨w.heap.size + 1, 0, none⟩ 1 1 nd.cells (by rfl) (by rfl) (World.news_of_block (cs := nd.cells.toArray) (t := 79) (fr := (0, 0)) (by exact (Blk.newAt (w := w.alloc (.cells nd.cells.toArray 79)) (b := w.heap.size + 1) (by simp) 79 nd.cells).drew)) (by simp [Value.oneCell', Nd.cells]) (by omega) (by unfold maxLen; omega) (by omega) (by simp) (w.heap.size + 1 + 1) (by simp) ?_
                 intro gg cap w6 o6 g6 hat6 hlt6
                 have ho6 := (((ht.alloc (.cells nd.cells.toArray 79)).alloc (.cells nd.cells.toArray 79)).drew).grown g6 (own_ne (((hown.alloc (.cells nd.cells.toArray 79)).alloc (.cells nd.cells.toArray 79)).drew) (((ht.alloc _).alloc _).drew) (by decide))
                 have c6 := ho6.cell 1
                 have k6 := ho6.frozen 1
                 simp only [List.getElem?_cons_zero, List.getElem?_cons_succ] at c6)
  all_goals
    have M6 : Mod (fun j => j = t ∨ (Value.slice va m vc).ownBlock = some j) w w6 := ((((Mod.refl _ w).alloc (.cells nd.cells.toArray 79)).alloc (.cells nd.cells.toArray 79)).drew).grown g6 (fun k hk _ => .inr hk)
    have hvo := own_ne o6 ho6 (by decide)
    have M7 := M6.setCell (p := ⟨t, 1, none⟩) (fun _ => .inl rfl) (Value.slice (some ⟨gg, 0, none⟩) (m + 1) cap)
    have b7 := ho6.set 1 (Value.slice (some ⟨gg, 0, none⟩) (m + 1) cap)
    have o7 := ownsRow_setCell_other (a := ⟨t, 1, none⟩) o6 hvo (Value.slice (some ⟨gg, 0, none⟩) (m + 1) cap)
    have c7 := b7.cell 1
    simp only [List.set_cons_succ, List.set_cons_zero, List.getElem?_cons_zero, List.getElem?_cons_succ] at c7 b7
    generalize w6.setCell _ _ = w7 at *
    go_wp2
    go_ret
    refine ⟨m, ns ++ [nd], [], _, _, rfl, .inr ⟨rfl, rfl, Hm.out, rfl⟩, ⟨b7, ?_, ?_, ?_⟩, M7.mono (fun j _ hj => by rcases hj with rfl | hj; exact .inl rfl; exact .inr (.inl hj)), ?_⟩
    · rw [flat_append, show (ns ++ [nd]).length = m + 1 by simp [Hm.out], show flat [nd] = nd.cells by simp [flat]]
      exact o7
    · refine own_modk hfr M7 (fun j cur hj => ?_)
      rcases hj with rfl | hj
      · exact (blk_not ht).1 cur 3 (by decide)
      · exact (own_not hown hj).1 cur 3 (by decide)
    · refine map_modk hmp M7 (fun j es c hj => ?_)
      rcases hj with rfl | hj
      · exact (blk_not ht).2 es c
      · exact (own_not hown hj).2 es c
    · rintro j (rfl | hj | hj | rfl)
      · exact .inl (.inl rfl)
      · simp only [Value.ownBlock, Option.some.injEq] at hj
        subst hj
        rcases hat6 with h6 | h6
        · exact .inl (.inr (.inl h6))
        · exact .inr (by omega)
      · exact .inl (.inr (.inr (.inl hj)))
      · exact .inl (.inr (.inr (.inr rfl)))
set_option maxRecDepth 100000 in
set_option maxHeartbeats 2000000 in
theorem lay_free (t mb : Nat) (vn vf : Value) (room : Int) (ns : List Nd) (gr : List Nat) (j : Nat) (root : Int) (n : Nat) (D : DataW Unit) (nd : Nd) (w : World) (h : Raw w t vn vf mb room ns (gr ++ [j]) root n D) (hj : j < ns.length) (_hn : ns.length ≤ 4096) (hg : gr.length ≤ 4096) :
    Calls Try.prog 43 #[.pointer (some ⟨t, 0, none⟩), ndV nd] w (LayP t mb vn vf room ns (gr ++ [j]) root n D nd w) := by
  obtain ⟨ht, hown, hfr, hmp⟩ := h
  obtain ⟨m, hm⟩ : ∃ m, m = ns.length := ⟨_, rfl⟩
  obtain ⟨G, hG⟩ : ∃ G, G = gr.length := ⟨_, rfl⟩
  have hn := _hn
  rw [← hm] at hown hn hj
  rw [show (gr ++ [j]).length = G + 1 by simp [hG], nats_snoc] at hfr
  rw [← hG] at hg
  obtain ⟨fg, fc, rfl⟩ := own_addr hfr (by omega)
  obtain ⟨gg, gc, rfl⟩ := own_addr hown (by omega)
  have hfc : G + 1 ≤ fc ∧ fc ≤ 9223372036854775807 := by
    obtain ⟨_, _, e, h1, h2⟩ := (Rd.of_own hfr).shape
    cases e
    exact ⟨h1, h2⟩
  have q0 : w.cell? ⟨fg, G, none⟩ = some (.int .i64 (j : Int)) := by
    have := (Rd.of_own hfr).at (i := G) (by omega)
    rw [Nat.zero_add] at this
    rw [this, ints_append, List.getElem?_append_right (by simp [ints, nats_len, hG])]
    simp [ints, nats_len, hG]
  obtain ⟨hfc1, hfc2⟩ := hfc
  have c1 := ht.cell 1
  have c2 := ht.cell 2
  have k2 := ht.frozen 2
  simp only [List.getElem?_cons_zero, List.getElem?_cons_succ] at c1 c2
  have htl := ht.lt
  have hgI : ((G : Int)) ≤ (fc : Int) := by omega
  have hfl := own_lt hfr (r := fg) rfl
  have hgl := own_lt hown (r := gg) rfl
  have htg : t ≠ gg := fun e => by subst e; exact own_ne hown ht (by decide) rfl
  have Hm := Lib.hid hm
  have HG := Lib.hid hG
  clear hm hG
  go_enter Try.func43, Try.ntmps43
  go_wp2
  have b1 := (ht.set 2 (Value.slice (some ⟨fg, 0, none⟩) G fc)).alloc (.cells nd.cells.toArray 79)
  have o1 := own_new (ownsRow_setCell_other (a := ⟨t, 2, none⟩) hown (own_ne hown ht (by decide)) (Value.slice (some ⟨fg, 0, none⟩) G fc)) ((Below.refl _ _).alloc (Nat.le_refl _) (.cells nd.cells.toArray 79))
  have x1 := Blk.newAt (w := w.setCell ⟨t, 2, none⟩ (Value.slice (some ⟨fg, 0, none⟩) G fc)) (b := w.heap.size) (by simp) 79 nd.cells
  have M1 : Mod (fun j => j = t) w ((w.setCell ⟨t, 2, none⟩ (Value.slice (some ⟨fg, 0, none⟩) G fc)).alloc (.cells nd.cells.toArray 79)) := ((Mod.refl (fun j => j = t) w).setCell (p := ⟨t, 2, none⟩) (fun _ => rfl) _).alloc _
  clear c1 c2 k2 q0
  simp only [List.set_cons_succ, List.set_cons_zero] at b1
  change Code.wp _ _ _ _ ((w.setCell ⟨t, 2, none⟩ (Value.slice (some ⟨fg, 0, none⟩) G fc)).alloc (.cells nd.cells.toArray 79))
  generalize (w.setCell ⟨t, 2, none⟩ (Value.slice (some ⟨fg, 0, none⟩) G fc)).alloc (.cells nd.cells.toArray 79) = w1 at *
  have c1 := b1.cell 1
  simp only [List.getElem?_cons_zero, List.getElem?_cons_succ] at c1
  have e0 : _ = some (Value.int .i64 nd.b.x0) := x1.cell 0
  have e1 : _ = some (Value.int .i64 nd.b.y0) := x1.cell 1
  have e2 : _ = some (Value.int .i64 nd.b.z0) := x1.cell 2
  have e3 : _ = some (Value.int .i64 nd.b.x1) := x1.cell 3
  have e4 : _ = some (Value.int .i64 nd.b.y1) := x1.cell 4
  have e5 : _ = some (Value.int .i64 nd.b.z1) := x1.cell 5
  have e6 : _ = some (Value.int .i64 nd.up) := x1.cell 6
  have e7 : _ = some (Value.int .i64 nd.left) := x1.cell 7
  have e8 : _ = some (Value.int .i64 nd.right) := x1.cell 8
  have e9 : _ = some (Value.int .i64 nd.h) := x1.cell 9
  have hjI : (j : Int) < (m : Int) := by omega
  obtain ⟨x, hx⟩ : ∃ x, ns[j]? = some x := ⟨_, List.getElem?_eq_getElem (by rw [← Hm.out]; exact hj)⟩
  obtain ⟨hg0, hg1, hg2, hg3, hg4, hg5, hg6, hg7, hg8, hg9⟩ := node_cells o1 hx
  obtain ⟨hk0, hk1, hk2, hk3, hk4, hk5, hk6, hk7, hk8, hk9⟩ := node_frozen o1 (j := j)
  have HX := Lib.hid hx
  clear hx
  refine wp_region_still_tail 7 (by kernel_rfl) (by kernel_rfl) ?_
  simp only [List.take_succ_cons, List.take_zero, List.drop_succ_cons, List.drop_zero]
  change wpStill _ _ w1.drew _ _ _
  repeat still_step
  refine wpStill_nil ?_
  change wpList _ _ _ _ _ w1.drew
  go_wp2
  go_ret
  have o2 := own_wsets (nodeSets nd) (k := j * 10) o1 (by simp [nodeSets]; omega)
  rw [flat_sets (fun _ => nd) _ (by simp [nodeSets]) ns j x HX.out (by rfl), modify_const] at o2
  have W2 := wsets_mod (nodeSets nd) gg (j * 10) w1
  have M2 : Mod (fun k => k = t ∨ k = gg) w (wsets w1 gg (j * 10) (nodeSets nd)) := (M1.mono (fun k _ h => .inl h)).trans (W2.mono (fun k _ h => .inr h))
  have b2 := b1.mod W2 htg
  have hf2 := own_cut (own_modk hfr M2 (fun k cur hk => by
    rcases hk with rfl | rfl
    · exact (blk_not ht).1 cur 3 (by decide)
    · exact (own_not hown (g := k) rfl).1 cur 3 (by decide))) (m := G) (by omega)
  have hm2 := map_modk hmp M2 (fun k es c hk => by
    rcases hk with rfl | rfl
    · exact (blk_not ht).2 es c
    · exact (own_not hown (g := k) rfl).2 es c)
  rw [Nat.mul_one, ints_append, List.take_append_of_le_length (by simp [ints, nats_len, HG.out]), List.take_of_length_le (by simp [ints, nats_len, HG.out])] at hf2
  simp only [wsets, nodeSets, List.foldl_cons, List.foldl_nil, Nat.add_zero] at o2 M2 b2 hf2 hm2
  refine ⟨j, ns.set j nd, gr, _, _, rfl, .inl ⟨rfl, rfl⟩, ⟨b2.drew, ?_, ?_, hm2.drew⟩, M2.drew.mono (fun k _ hk => ?_), ?_⟩
  · rw [List.length_set, ← Hm.out]; exact o2.drew
  · rw [← HG.out]; exact hf2.drew
  · rcases hk with rfl | rfl
    · exact .inl rfl
    · exact .inr (.inl rfl)
  · rintro k (rfl | hk | hk | rfl)
    · exact .inl (.inl rfl)
    · exact .inl (.inr (.inl hk))
    · exact .inl (.inr (.inr (.inl hk)))
    · exact .inl (.inr (.inr (.inr rfl)))
theorem lay43_any (t mb : Nat) (vn vf : Value) (room : Int) (ns : List Nd) (fr : List Nat) (root : Int) (n : Nat) (D : DataW Unit) (nd : Nd) (w : World) (h : Raw w t vn vf mb room ns fr root n D) (hf : ∀ i ∈ fr, i < ns.length) (hn : ns.length ≤ 4096) (hg : fr.length ≤ 4096) :
    Calls Try.prog 43 #[.pointer (some ⟨t, 0, none⟩), ndV nd] w (LayP t mb vn vf room ns fr root n D nd w) := by
  rcases List.eq_nil_or_concat fr with rfl | ⟨gr, j, rfl⟩
  · exact lay_more t mb vn vf room ns root n D nd w h hn
  · rw [List.concat_eq_append] at h hf hg ⊢
    exact lay_free t mb vn vf room ns gr j root n D nd w h (hf j (by simp)) hn (by rw [List.length_append] at hg; omega)
end Go.Proofs.Ytadfmhjnmmmalaa
