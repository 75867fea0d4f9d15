/- Trees: replace and refit. -/
import Derived.Test.YtadfmhjnmmmalaaN2
namespace Go.Proofs.Ytadfmhjnmmmalaa
open Go.RowKit Go.Maps
theorem wsets_cell : ∀ (us : List (Nat × Value)) (g k : Nat) (w : World) (a : Addr), (∀ p ∈ us, ¬ ((⟨g, k + p.1, none⟩ : Addr) = a)) → (wsets w g k us).cell? a = w.cell? a
  | [], _, _, _, _, _ => rfl
  | p :: us, g, k, _w, a, h => (wsets_cell us g k _ a (fun q hq => h q (List.mem_cons_of_mem _ hq))).trans (World.cell?_setCell_other _ _ _ _ (h p (List.mem_cons_self ..)))
theorem below_mod {S : Nat → Prop} {w w' : World} (h : Below w.heap.size w w') : Mod S w w' := Mod.of_below h (fun k h1 h2 => by omega)
/-- A node of the arena is turned. -/
theorem Raw.store {w : World} {t g m cap : Nat} {vf : Value} {mb : Nat} {room : Int} {ns : List Nd} {fr : List Nat} {root : Int} {n : Nat} {D : DataW Unit} (h : Raw w t (.slice (some ⟨g, 0, none⟩) m cap) vf mb room ns fr root n D)
    (us : List (Nat × Value)) (hu : ∀ p ∈ us, p.1 < 10) (f : Nd → Nd) {j : Nat} {x : Nd} (hx : ns[j]? = some x) (hs : sets us 0 x.cells = (f x).cells) :
    Raw (wsets w g (j * 10) us) t (.slice (some ⟨g, 0, none⟩) m cap) vf mb room (ns.modify j f) fr root n D ∧ Mod (fun k => k = g) w (wsets w g (j * 10) us) := by
  obtain ⟨h1, h2, h3, h4⟩ := h
  have hM := wsets_mod us g (j * 10) w
  have hj := (List.getElem?_eq_some_iff.1 hx).1
  have hmn : ns.length = m := by
    have := h2.1
    rw [nflat_len] at this
    rcases h2.2 with ⟨h0, _⟩ | ⟨_, _, _, hv, _⟩
    · cases h0
    · cases hv; rfl
  refine ⟨⟨h1.mod hM (fun e => own_ne h2 h1 (by decide) (by rw [e]; rfl)), ?_, own_modk h3 hM (fun k cur hk => by subst hk; exact (own_not h2 (g := k) rfl).1 cur 3 (by decide)), map_modk h4 hM (fun k es c hk => by subst hk; exact (own_not h2 (g := k) rfl).2 es c)⟩, hM⟩
  rw [hmn] at h2
  have h5 := own_wsets us (k := j * 10) h2 (fun p hp => by have := hu p hp; omega)
  rw [flat_sets f us hu ns j x hx hs] at h5
  rw [List.length_modify, hmn]
  exact h5
theorem Raw.root {w : World} {t : Nat} {vn vf : Value} {mb : Nat} {room : Int} {ns : List Nd} {fr : List Nat} {root : Int} {n : Nat} {D : DataW Unit} (h : Raw w t vn vf mb room ns fr root n D) (r : Int) :
    Raw (w.setCell ⟨t, 3, none⟩ (.int .i64 r)) t vn vf mb room ns fr r n D := by
  obtain ⟨h1, h2, h3, h4⟩ := h
  have hM : Mod (fun j => j = t) w (w.setCell ⟨t, 3, none⟩ (.int .i64 r)) := (Mod.refl (fun j => j = t) w).setCell (p := ⟨t, 3, none⟩) (fun _ => rfl) _
  exact ⟨h1.set 3 _, own_modk h2 hM (fun k cur hk => by subst hk; exact (blk_not h1).1 cur 79 (by decide)), own_modk h3 hM (fun k cur hk => by subst hk; exact (blk_not h1).1 cur 3 (by decide)), map_modk h4 hM (fun k es c hk => by subst hk; exact (blk_not h1).2 es c)⟩
theorem Raw.drew {w : World} {t : Nat} {vn vf : Value} {mb : Nat} {room : Int} {ns : List Nd} {fr : List Nat} {root : Int} {n : Nat} {D : DataW Unit} (h : Raw w t vn vf mb room ns fr root n D) : Raw w.drew t vn vf mb room ns fr root n D := h.below (Below.refl _ _).drew
/-- Where the nodes lie. -/
theorem Raw.nodes {w : World} {t : Nat} {vn vf : Value} {mb : Nat} {room : Int} {ns : List Nd} {fr : List Nat} {root : Int} {n : Nat} {D : DataW Unit} (h : Raw w t vn vf mb room ns fr root n D) (hn : ns ≠ []) : ∃ g cap, vn = .slice (some ⟨g, 0, none⟩) ns.length cap :=
  own_addr h.2.1 (fun e => hn (List.length_eq_zero_iff.1 e))
/-- What replace leaves. -/
def ReplN (c : List Fr) (k now : Nat) (ns : List Nd) (root : Int) (qs : List Nd) (root' : Int) : Prop :=
  match c with
  | [] => qs = ns ∧ root' = (now : Int)
  | f :: _ => qs = ns.modify f.i (swapN k now) ∧ root' = root
set_option maxRecDepth 100000 in
set_option maxHeartbeats 1000000 in
theorem replace45_any (t mb : Nat) (vn vf : Value) (room : Int) (ns : List Nd) (fr : List Nat) (root : Int) (n : Nat) (D : DataW Unit) (c : List Fr) (k now : Nat) (w : World) (h : Raw w t vn vf mb room ns fr root n D) (hc : ∀ i ∈ idxsC c, i < ns.length) (_hn : ns.length ≤ 4096) :
    Calls Try.prog 45 #[.pointer (some ⟨t, 0, none⟩), .int .i64 (upOf c), .int .i64 k, .int .i64 now] w fun e w' => e = .returned (.tuple #[]) ∧ ∃ qs root', ReplN c k now ns root qs root' ∧ Raw w' t vn vf mb room qs fr root' n D ∧ Mod (Foot t vn vf mb) w w' := by
  have ht := h.1
  have c1 := ht.cell 1
  have c3 := ht.cell 3
  have k3 := ht.frozen 3
  simp only [List.getElem?_cons_zero, List.getElem?_cons_succ] at c1 c3
  cases c with
  | nil =>
    simp only [upOf]
    go_enter Try.func45, Try.ntmps45
    go_wp2
    exact bodyPost_end (v := .tuple #[]) (by simp [results, Try.f45, go_sem]) rfl ⟨rfl, ns, _, ⟨rfl, rfl⟩, h.root _, (Mod.refl (Foot t vn vf mb) w).setCell (p := ⟨t, 3, none⟩) (fun _ => .inl rfl) _⟩
  | cons f c =>
    simp only [upOf]
    have hf := hc f.i (by simp [idxsC])
    obtain ⟨x, hx⟩ : ∃ x, ns[f.i]? = some x := ⟨_, List.getElem?_eq_getElem hf⟩
    obtain ⟨g, cap, rfl⟩ := h.nodes (fun e => by rw [e] at hf; cases hf)
    obtain ⟨m, hm⟩ : ∃ m, m = ns.length := ⟨_, rfl⟩
    have hn := _hn
    rw [← hm] at h hf hn c1
    have o1 := h.2.1
    rw [← hm] at o1
    obtain ⟨_, _, _, _, _, _, _, g7, g8, _⟩ := node_cells o1 hx
    obtain ⟨_, _, _, _, _, _, _, k7, k8, _⟩ := node_frozen o1 (j := f.i)
    have hfI : (f.i : Int) < (m : Int) := by omega
    have hf0 : ¬ (f.i : Int) < 0 := by omega
    have HX := Lib.hid hx
    have H := Lib.hid h
    have Hm := Lib.hid hm
    clear hx hm h o1
    by_cases hl : x.left = (k : Int)
    · have hlb : (x.left == (k : Int)) = true := by rw [hl]; simp
      go_enter Try.func45, Try.ntmps45
      go_wp2
      rw [Hm.out] at H
      obtain ⟨R, M⟩ := H.out.store [(7, .int .i64 (now : Int))] (by simp) (swapN k now) HX.out (by unfold swapN; rw [if_pos hl]; rfl)
      simp only [wsets, List.foldl_cons, List.foldl_nil] at R M
      exact bodyPost_end (v := .tuple #[]) (by simp [results, Try.f45, go_sem]) rfl ⟨rfl, _, _, ⟨rfl, rfl⟩, R, M.mono (fun j _ hj => .inr (.inl (by rw [hj]; rfl)))⟩
    · have hlb : (x.left == (k : Int)) = false := by simpa using hl
      go_enter Try.func45, Try.ntmps45
      go_wp2
      rw [Hm.out] at H
      obtain ⟨R, M⟩ := H.out.store [(8, .int .i64 (now : Int))] (by simp) (swapN k now) HX.out (by unfold swapN; rw [if_neg hl]; rfl)
      simp only [wsets, List.foldl_cons, List.foldl_nil] at R M
      exact bodyPost_end (v := .tuple #[]) (by simp [results, Try.f45, go_sem]) rfl ⟨rfl, _, _, ⟨rfl, rfl⟩, R, M.mono (fun j _ hj => .inr (.inl (by rw [hj]; rfl)))⟩
theorem Hold.at {ns : List Nd} {up : Int} : ∀ {s : T}, Hold ns up s → ∃ x, ns[s.idx]? = some x ∧ x.b = s.box ∧ x.up = up
  | .leaf _ _ _, h => ⟨_, h, rfl, rfl⟩
  | .node _ _ _ _, h => by obtain ⟨⟨hh, h⟩, _⟩ := h; exact ⟨_, h, rfl, rfl⟩
/-- What refit leaves. -/
def RefitP (t mb : Nat) (vn vf : Value) (room : Int) (fr : List Nat) (root : Int) (n : Nat) (D : DataW Unit) (c : List Fr) (s : T) (w : World) (e : Ending) (w' : World) : Prop :=
  e = .returned (.tuple #[]) ∧ ∃ qs, Raw w' t vn vf mb room qs fr root n D ∧ St qs fr root (some (refitT c s)) ∧ Mod (Foot t vn vf mb) w w'
set_option maxRecDepth 100000 in
set_option maxHeartbeats 2000000 in
theorem refit46_any (t mb g m cap : Nat) (vf : Value) (room : Int) (ns : List Nd) (fr : List Nat) (root : Int) (n : Nat) (D : DataW Unit) (c : List Fr) (s : T) (w : World) (h : Raw w t (.slice (some ⟨g, 0, none⟩) m cap) vf mb room ns fr root n D) (hm : Mid ns fr root c s) (hml : ns.length = m) (_hn : m ≤ 4096) :
    Calls Try.prog 46 #[.pointer (some ⟨t, 0, none⟩), .int .i64 (upOf c)] w (RefitP t mb (.slice (some ⟨g, 0, none⟩) m cap) vf room fr root n D c s w) := by
  go_enter Try.func46, Try.ntmps46
  go_wp2
  go_loopg [1, 4] c.length (fun k a _ wr => ∃ (d : List Fr) (u : T) (qs : List Nd), k = d.length ∧ a = .int .i64 (upOf d) ∧ refitT d u = refitT c s ∧ qs.length = m ∧ Mid qs fr root d u ∧ Raw wr t (.slice (some ⟨g, 0, none⟩) m cap) vf mb room qs fr root n D ∧ Mod (Foot t (.slice (some ⟨g, 0, none⟩) m cap) vf mb) w wr)
  case atStart => exact ⟨c, s, ns, rfl, rfl, rfl, hml, hm, h, Mod.refl _ _⟩
  case round =>
    clear hm h hml
    obtain ⟨d, u, qs, rfl, rfl, hT, hql, hM, hR, hW⟩ := hrel
    have HT := Lib.hid hT
    clear hT
    cases d with
    | nil =>
      simp only [upOf]
      go_wp2
      exact bodyPost_end (v := .tuple #[]) (by simp [results, Try.f46, go_sem]) rfl ⟨rfl, qs, hR, by rw [← HT.out]; exact hM.done, hW⟩
    | cons f d =>
      simp only [upOf]
      have ht := hR.1
      have c1 := ht.cell 1
      simp only [List.getElem?_cons_zero, List.getElem?_cons_succ] at c1
      have hown := hR.2.1
      rw [hql] at hown
      obtain ⟨a1, ⟨⟨hh, x1⟩, a2, a3⟩, -⟩ := id hM
      obtain ⟨xu, hxu, hub, _⟩ := a1.at
      obtain ⟨xs, hxs, hsb, _⟩ := a2.at
      obtain ⟨p0, p1, p2, p3, p4, p5, p6, p7, p8, _⟩ := node_cells hown x1
      obtain ⟨k0, k1, k2, k3, k4, k5, _⟩ := node_frozen hown (j := f.i)
      obtain ⟨u0, u1, u2, u3, u4, u5, _⟩ := node_cells hown hxu
      obtain ⟨s0, s1, s2, s3, s4, s5, _⟩ := node_cells hown hxs
      have hfl := (List.getElem?_eq_some_iff.1 x1).1
      have hul := (List.getElem?_eq_some_iff.1 hxu).1
      have hsl := (List.getElem?_eq_some_iff.1 hxs).1
      have hfI : (f.i : Int) < (m : Int) := by omega
      have huI : (u.idx : Int) < (m : Int) := by omega
      have hsI : (f.sib.idx : Int) < (m : Int) := by omega
      have hgl := own_lt hown (r := g) rfl
      rw [hub] at u0 u1 u2 u3 u4 u5
      rw [hsb] at s0 s1 s2 s3 s4 s5
      have HN : Hid (u.idx ≠ f.i ∧ f.sib.idx ≠ f.i) := Lib.hid (by
        have hn := hM.2.2.1.1
        have h1 := (List.nodup_append.1 hn).1
        have h2 := List.nodup_append.1 h1
        have h3 := h2.2.1
        simp only [idxsC, List.nodup_cons, List.mem_append] at h3
        exact ⟨h2.2.2 _ u.idx_mem f.i (by simp [idxsC]), fun e => h3.1 (.inl (by rw [← e]; exact f.sib.idx_mem))⟩)
      have X1 := Lib.hid x1
      have HM := Lib.hid hM
      have HR := Lib.hid hR
      have HW := Lib.hid hW
      clear x1 hM hR hW a1 a2 a3 hxu hxs hub hsb hfl hul hsl
      have htl := ht.lt
      have htg : t ≠ g := fun e => own_ne hown ht (by decide) (by rw [e]; rfl)
      have huf := HN.out.1
      have hsf := HN.out.2
      cases hs : f.s with
      | true =>
        simp only [hs, if_true] at p7 p8 X1
        go_wp2
        have HQ1 : Hid (∀ w2, Below wr.drew.heap.size wr.drew w2 → (fun wx => wx.cell? ⟨t, 1, none⟩ = some (.slice (some ⟨g, 0, none⟩) m cap) ∧ wx.cell? ⟨g, f.i * 10 + 7, none⟩ = some (.int .i64 u.idx) ∧ wx.cell? ⟨g, f.i * 10 + 8, none⟩ = some (.int .i64 f.sib.idx) ∧ wx.cell? ⟨g, u.idx * 10, none⟩ = some (.int .i64 u.box.x0) ∧ wx.cell? ⟨g, u.idx * 10 + 1, none⟩ = some (.int .i64 u.box.y0) ∧ wx.cell? ⟨g, u.idx * 10 + 2, none⟩ = some (.int .i64 u.box.z0) ∧ wx.cell? ⟨g, u.idx * 10 + 3, none⟩ = some (.int .i64 u.box.x1) ∧ wx.cell? ⟨g, u.idx * 10 + 4, none⟩ = some (.int .i64 u.box.y1) ∧ wx.cell? ⟨g, u.idx * 10 + 5, none⟩ = some (.int .i64 u.box.z1) ∧ wx.cell? ⟨g, f.sib.idx * 10, none⟩ = some (.int .i64 f.sib.box.x0) ∧ wx.cell? ⟨g, f.sib.idx * 10 + 1, none⟩ = some (.int .i64 f.sib.box.y0) ∧ wx.cell? ⟨g, f.sib.idx * 10 + 2, none⟩ = some (.int .i64 f.sib.box.z0) ∧ wx.cell? ⟨g, f.sib.idx * 10 + 3, none⟩ = some (.int .i64 f.sib.box.x1) ∧ wx.cell? ⟨g, f.sib.idx * 10 + 4, none⟩ = some (.int .i64 f.sib.box.y1) ∧ wx.cell? ⟨g, f.sib.idx * 10 + 5, none⟩ = some (.int .i64 f.sib.box.z1)) w2) := Lib.hid fun w2 hB => ⟨(hB.cell (p := ⟨t, 1, none⟩) (by exact htl)).trans c1, (hB.cell (p := ⟨g, f.i * 10 + 7, none⟩) (by exact hgl)).trans p7, (hB.cell (p := ⟨g, f.i * 10 + 8, none⟩) (by exact hgl)).trans p8, (hB.cell (p := ⟨g, u.idx * 10, none⟩) (by exact hgl)).trans u0, (hB.cell (p := ⟨g, u.idx * 10 + 1, none⟩) (by exact hgl)).trans u1, (hB.cell (p := ⟨g, u.idx * 10 + 2, none⟩) (by exact hgl)).trans u2, (hB.cell (p := ⟨g, u.idx * 10 + 3, none⟩) (by exact hgl)).trans u3, (hB.cell (p := ⟨g, u.idx * 10 + 4, none⟩) (by exact hgl)).trans u4, (hB.cell (p := ⟨g, u.idx * 10 + 5, none⟩) (by exact hgl)).trans u5, (hB.cell (p := ⟨g, f.sib.idx * 10, none⟩) (by exact hgl)).trans s0, (hB.cell (p := ⟨g, f.sib.idx * 10 + 1, none⟩) (by exact hgl)).trans s1, (hB.cell (p := ⟨g, f.sib.idx * 10 + 2, none⟩) (by exact hgl)).trans s2, (hB.cell (p := ⟨g, f.sib.idx * 10 + 3, none⟩) (by exact hgl)).trans s3, (hB.cell (p := ⟨g, f.sib.idx * 10 + 4, none⟩) (by exact hgl)).trans s4, (hB.cell (p := ⟨g, f.sib.idx * 10 + 5, none⟩) (by exact hgl)).trans s5⟩
        have HE1 : Hid (∀ w2, Below wr.drew.heap.size wr.drew w2 → ∀ e0 e1 e2 e3 e4 e5 : Value, (fun wx => wx.cell? ⟨t, 1, none⟩ = some (.slice (some ⟨g, 0, none⟩) m cap) ∧ wx.cell? ⟨g, f.i * 10 + 7, none⟩ = some (.int .i64 u.idx) ∧ wx.cell? ⟨g, f.i * 10 + 8, none⟩ = some (.int .i64 f.sib.idx) ∧ wx.cell? ⟨g, u.idx * 10, none⟩ = some (.int .i64 u.box.x0) ∧ wx.cell? ⟨g, u.idx * 10 + 1, none⟩ = some (.int .i64 u.box.y0) ∧ wx.cell? ⟨g, u.idx * 10 + 2, none⟩ = some (.int .i64 u.box.z0) ∧ wx.cell? ⟨g, u.idx * 10 + 3, none⟩ = some (.int .i64 u.box.x1) ∧ wx.cell? ⟨g, u.idx * 10 + 4, none⟩ = some (.int .i64 u.box.y1) ∧ wx.cell? ⟨g, u.idx * 10 + 5, none⟩ = some (.int .i64 u.box.z1) ∧ wx.cell? ⟨g, f.sib.idx * 10, none⟩ = some (.int .i64 f.sib.box.x0) ∧ wx.cell? ⟨g, f.sib.idx * 10 + 1, none⟩ = some (.int .i64 f.sib.box.y0) ∧ wx.cell? ⟨g, f.sib.idx * 10 + 2, none⟩ = some (.int .i64 f.sib.box.z0) ∧ wx.cell? ⟨g, f.sib.idx * 10 + 3, none⟩ = some (.int .i64 f.sib.box.x1) ∧ wx.cell? ⟨g, f.sib.idx * 10 + 4, none⟩ = some (.int .i64 f.sib.box.y1) ∧ wx.cell? ⟨g, f.sib.idx * 10 + 5, none⟩ = some (.int .i64 f.sib.box.z1)) ((((((w2.setCell ⟨g, f.i * 10, none⟩ e0).setCell ⟨g, f.i * 10 + 1, none⟩ e1).setCell ⟨g, f.i * 10 + 2, none⟩ e2).setCell ⟨g, f.i * 10 + 3, none⟩ e3).setCell ⟨g, f.i * 10 + 4, none⟩ e4).setCell ⟨g, f.i * 10 + 5, none⟩ e5)) := Lib.hid fun w2 hB e0 e1 e2 e3 e4 e5 => by
          have hw := wsets_cell [(0, e0), (1, e1), (2, e2), (3, e3), (4, e4), (5, e5)] g (f.i * 10) w2
          simp only [wsets, List.foldl_cons, List.foldl_nil, Nat.add_zero] at hw
          have hq := HQ1.out w2 hB
          obtain ⟨r0, r1, r2, r3, r4, r5, r6, r7, r8, r9, r10, r11, r12, r13, r14⟩ := hq
          exact ⟨(hw _ (by simp <;> omega)).trans r0, (hw _ (by simp <;> omega)).trans r1, (hw _ (by simp <;> omega)).trans r2, (hw _ (by simp <;> omega)).trans r3, (hw _ (by simp <;> omega)).trans r4, (hw _ (by simp <;> omega)).trans r5, (hw _ (by simp <;> omega)).trans r6, (hw _ (by simp <;> omega)).trans r7, (hw _ (by simp <;> omega)).trans r8, (hw _ (by simp <;> omega)).trans r9, (hw _ (by simp <;> omega)).trans r10, (hw _ (by simp <;> omega)).trans r11, (hw _ (by simp <;> omega)).trans r12, (hw _ (by simp <;> omega)).trans r13, (hw _ (by simp <;> omega)).trans r14⟩
        go_region_held3 (fun wx => wx.cell? ⟨t, 1, none⟩ = some (.slice (some ⟨g, 0, none⟩) m cap) ∧ wx.cell? ⟨g, f.i * 10 + 7, none⟩ = some (.int .i64 u.idx) ∧ wx.cell? ⟨g, f.i * 10 + 8, none⟩ = some (.int .i64 f.sib.idx) ∧ wx.cell? ⟨g, u.idx * 10, none⟩ = some (.int .i64 u.box.x0) ∧ wx.cell? ⟨g, u.idx * 10 + 1, none⟩ = some (.int .i64 u.box.y0) ∧ wx.cell? ⟨g, u.idx * 10 + 2, none⟩ = some (.int .i64 u.box.z0) ∧ wx.cell? ⟨g, u.idx * 10 + 3, none⟩ = some (.int .i64 u.box.x1) ∧ wx.cell? ⟨g, u.idx * 10 + 4, none⟩ = some (.int .i64 u.box.y1) ∧ wx.cell? ⟨g, u.idx * 10 + 5, none⟩ = some (.int .i64 u.box.z1) ∧ wx.cell? ⟨g, f.sib.idx * 10, none⟩ = some (.int .i64 f.sib.box.x0) ∧ wx.cell? ⟨g, f.sib.idx * 10 + 1, none⟩ = some (.int .i64 f.sib.box.y0) ∧ wx.cell? ⟨g, f.sib.idx * 10 + 2, none⟩ = some (.int .i64 f.sib.box.z0) ∧ wx.cell? ⟨g, f.sib.idx * 10 + 3, none⟩ = some (.int .i64 f.sib.box.x1) ∧ wx.cell? ⟨g, f.sib.idx * 10 + 4, none⟩ = some (.int .i64 f.sib.box.y1) ∧ wx.cell? ⟨g, f.sib.idx * 10 + 5, none⟩ = some (.int .i64 f.sib.box.z1))
          (first | with_reducible exact HQ | with_reducible exact HE _ _ _ _ _ _ | go_keep)
          ((go_at_call 22; refine (join22_any _ _ _).mono ?_
            rintro e w2 ⟨rfl, hB⟩
            have HQ := HQ1.out w2 hB
            have HE := HE1.out w2 hB
            have qp0 := (hB.cell (p := ⟨g, f.i * 10, none⟩) (by exact hgl)).trans p0
            have qk0 := (hB.frozen (p := ⟨g, f.i * 10, none⟩) (by exact hgl)).trans k0
            have qp1 := (hB.cell (p := ⟨g, f.i * 10 + 1, none⟩) (by exact hgl)).trans p1
            have qk1 := (hB.frozen (p := ⟨g, f.i * 10 + 1, none⟩) (by exact hgl)).trans k1
            have qp2 := (hB.cell (p := ⟨g, f.i * 10 + 2, none⟩) (by exact hgl)).trans p2
            have qk2 := (hB.frozen (p := ⟨g, f.i * 10 + 2, none⟩) (by exact hgl)).trans k2
            have qp3 := (hB.cell (p := ⟨g, f.i * 10 + 3, none⟩) (by exact hgl)).trans p3
            have qk3 := (hB.frozen (p := ⟨g, f.i * 10 + 3, none⟩) (by exact hgl)).trans k3
            have qp4 := (hB.cell (p := ⟨g, f.i * 10 + 4, none⟩) (by exact hgl)).trans p4
            have qk4 := (hB.frozen (p := ⟨g, f.i * 10 + 4, none⟩) (by exact hgl)).trans k4
            have qp5 := (hB.cell (p := ⟨g, f.i * 10 + 5, none⟩) (by exact hgl)).trans p5
            have qk5 := (hB.frozen (p := ⟨g, f.i * 10 + 5, none⟩) (by exact hgl)).trans k5))
        obtain ⟨R, M⟩ := ((HR.out.drew).below hB).store [(0, .int .i64 (joinB u.box f.sib.box).x0), (1, .int .i64 (joinB u.box f.sib.box).y0), (2, .int .i64 (joinB u.box f.sib.box).z0), (3, .int .i64 (joinB u.box f.sib.box).x1), (4, .int .i64 (joinB u.box f.sib.box).y1), (5, .int .i64 (joinB u.box f.sib.box).z1)] (by simp) (setBox (joinB u.box f.sib.box)) X1.out (by rfl)
        have hst := HM.out.step
        simp only [hs, if_true] at hst
        have hT2 : refitT d (stick f (joinB u.box f.sib.box) u) = refitT c s := by
          have := HT.out
          simp only [refitT, hs, if_true] at this
          exact this
        simp only [wsets, List.foldl_cons, List.foldl_nil, Nat.add_zero] at R M
        have hgu : (qs.modify f.i (setBox (joinB u.box f.sib.box)))[f.i]? = some (setBox (joinB u.box f.sib.box) ⟨f.b, upOf d, _, _, hh⟩) := mod_self _ X1.out
        have MW : Mod (Foot t (.slice (some ⟨g, 0, none⟩) m cap) vf mb) w _ := (HW.out.trans (below_mod ((Below.refl wr.heap.size wr).drew.trans hB))).trans (M.mono (fun j _ hj => .inr (.inl (by rw [hj]; rfl))))
        clear HQ HE qp0 qk0 qp1 qk1 qp2 qk2 qp3 qk3 qp4 qk4 qp5 qk5 HQ1 HE1 M c1 p0 p1 p2 p3 p4 p5 p6 p7 p8 k0 k1 k2 k3 k4 k5 u0 u1 u2 u3 u4 u5 s0 s1 s2 s3 s4 s5 ht hown
        generalize ((((((w2.setCell _ _).setCell _ _).setCell _ _).setCell _ _).setCell _ _).setCell _ _) = wE at *
        have ht := R.1
        have c1 := ht.cell 1
        simp only [List.getElem?_cons_zero, List.getElem?_cons_succ] at c1
        have hown := R.2.1
        rw [List.length_modify, hql] at hown
        obtain ⟨_, _, _, _, _, _, p6, _⟩ := node_cells hown hgu
        have p6' : wE.cell? ⟨g, f.i * 10 + 6, none⟩ = some (.int .i64 (upOf d)) := p6
        have R2 := Lib.hid R
        have HST := Lib.hid hst
        have HT2 := Lib.hid hT2
        have HMW := Lib.hid MW
        clear p6 R hst hT2 MW hgu
        go_wp2
        go_roundg d.length
        case measure => simp
        case rel => exact ⟨d, _, _, rfl, rfl, HT2.out, by rw [List.length_modify]; exact hql, HST.out, R2.out, HMW.out⟩
      | false =>
        simp only [hs, Bool.false_eq_true, if_false] at p7 p8 X1
        go_wp2
        have HQ1 : Hid (∀ w2, Below wr.drew.heap.size wr.drew w2 → (fun wx => wx.cell? ⟨t, 1, none⟩ = some (.slice (some ⟨g, 0, none⟩) m cap) ∧ wx.cell? ⟨g, f.i * 10 + 7, none⟩ = some (.int .i64 f.sib.idx) ∧ wx.cell? ⟨g, f.i * 10 + 8, none⟩ = some (.int .i64 u.idx) ∧ wx.cell? ⟨g, u.idx * 10, none⟩ = some (.int .i64 u.box.x0) ∧ wx.cell? ⟨g, u.idx * 10 + 1, none⟩ = some (.int .i64 u.box.y0) ∧ wx.cell? ⟨g, u.idx * 10 + 2, none⟩ = some (.int .i64 u.box.z0) ∧ wx.cell? ⟨g, u.idx * 10 + 3, none⟩ = some (.int .i64 u.box.x1) ∧ wx.cell? ⟨g, u.idx * 10 + 4, none⟩ = some (.int .i64 u.box.y1) ∧ wx.cell? ⟨g, u.idx * 10 + 5, none⟩ = some (.int .i64 u.box.z1) ∧ wx.cell? ⟨g, f.sib.idx * 10, none⟩ = some (.int .i64 f.sib.box.x0) ∧ wx.cell? ⟨g, f.sib.idx * 10 + 1, none⟩ = some (.int .i64 f.sib.box.y0) ∧ wx.cell? ⟨g, f.sib.idx * 10 + 2, none⟩ = some (.int .i64 f.sib.box.z0) ∧ wx.cell? ⟨g, f.sib.idx * 10 + 3, none⟩ = some (.int .i64 f.sib.box.x1) ∧ wx.cell? ⟨g, f.sib.idx * 10 + 4, none⟩ = some (.int .i64 f.sib.box.y1) ∧ wx.cell? ⟨g, f.sib.idx * 10 + 5, none⟩ = some (.int .i64 f.sib.box.z1)) w2) := Lib.hid fun w2 hB => ⟨(hB.cell (p := ⟨t, 1, none⟩) (by exact htl)).trans c1, (hB.cell (p := ⟨g, f.i * 10 + 7, none⟩) (by exact hgl)).trans p7, (hB.cell (p := ⟨g, f.i * 10 + 8, none⟩) (by exact hgl)).trans p8, (hB.cell (p := ⟨g, u.idx * 10, none⟩) (by exact hgl)).trans u0, (hB.cell (p := ⟨g, u.idx * 10 + 1, none⟩) (by exact hgl)).trans u1, (hB.cell (p := ⟨g, u.idx * 10 + 2, none⟩) (by exact hgl)).trans u2, (hB.cell (p := ⟨g, u.idx * 10 + 3, none⟩) (by exact hgl)).trans u3, (hB.cell (p := ⟨g, u.idx * 10 + 4, none⟩) (by exact hgl)).trans u4, (hB.cell (p := ⟨g, u.idx * 10 + 5, none⟩) (by exact hgl)).trans u5, (hB.cell (p := ⟨g, f.sib.idx * 10, none⟩) (by exact hgl)).trans s0, (hB.cell (p := ⟨g, f.sib.idx * 10 + 1, none⟩) (by exact hgl)).trans s1, (hB.cell (p := ⟨g, f.sib.idx * 10 + 2, none⟩) (by exact hgl)).trans s2, (hB.cell (p := ⟨g, f.sib.idx * 10 + 3, none⟩) (by exact hgl)).trans s3, (hB.cell (p := ⟨g, f.sib.idx * 10 + 4, none⟩) (by exact hgl)).trans s4, (hB.cell (p := ⟨g, f.sib.idx * 10 + 5, none⟩) (by exact hgl)).trans s5⟩
        have HE1 : Hid (∀ w2, Below wr.drew.heap.size wr.drew w2 → ∀ e0 e1 e2 e3 e4 e5 : Value, (fun wx => wx.cell? ⟨t, 1, none⟩ = some (.slice (some ⟨g, 0, none⟩) m cap) ∧ wx.cell? ⟨g, f.i * 10 + 7, none⟩ = some (.int .i64 f.sib.idx) ∧ wx.cell? ⟨g, f.i * 10 + 8, none⟩ = some (.int .i64 u.idx) ∧ wx.cell? ⟨g, u.idx * 10, none⟩ = some (.int .i64 u.box.x0) ∧ wx.cell? ⟨g, u.idx * 10 + 1, none⟩ = some (.int .i64 u.box.y0) ∧ wx.cell? ⟨g, u.idx * 10 + 2, none⟩ = some (.int .i64 u.box.z0) ∧ wx.cell? ⟨g, u.idx * 10 + 3, none⟩ = some (.int .i64 u.box.x1) ∧ wx.cell? ⟨g, u.idx * 10 + 4, none⟩ = some (.int .i64 u.box.y1) ∧ wx.cell? ⟨g, u.idx * 10 + 5, none⟩ = some (.int .i64 u.box.z1) ∧ wx.cell? ⟨g, f.sib.idx * 10, none⟩ = some (.int .i64 f.sib.box.x0) ∧ wx.cell? ⟨g, f.sib.idx * 10 + 1, none⟩ = some (.int .i64 f.sib.box.y0) ∧ wx.cell? ⟨g, f.sib.idx * 10 + 2, none⟩ = some (.int .i64 f.sib.box.z0) ∧ wx.cell? ⟨g, f.sib.idx * 10 + 3, none⟩ = some (.int .i64 f.sib.box.x1) ∧ wx.cell? ⟨g, f.sib.idx * 10 + 4, none⟩ = some (.int .i64 f.sib.box.y1) ∧ wx.cell? ⟨g, f.sib.idx * 10 + 5, none⟩ = some (.int .i64 f.sib.box.z1)) ((((((w2.setCell ⟨g, f.i * 10, none⟩ e0).setCell ⟨g, f.i * 10 + 1, none⟩ e1).setCell ⟨g, f.i * 10 + 2, none⟩ e2).setCell ⟨g, f.i * 10 + 3, none⟩ e3).setCell ⟨g, f.i * 10 + 4, none⟩ e4).setCell ⟨g, f.i * 10 + 5, none⟩ e5)) := Lib.hid fun w2 hB e0 e1 e2 e3 e4 e5 => by
          have hw := wsets_cell [(0, e0), (1, e1), (2, e2), (3, e3), (4, e4), (5, e5)] g (f.i * 10) w2
          simp only [wsets, List.foldl_cons, List.foldl_nil, Nat.add_zero] at hw
          have hq := HQ1.out w2 hB
          obtain ⟨r0, r1, r2, r3, r4, r5, r6, r7, r8, r9, r10, r11, r12, r13, r14⟩ := hq
          exact ⟨(hw _ (by simp <;> omega)).trans r0, (hw _ (by simp <;> omega)).trans r1, (hw _ (by simp <;> omega)).trans r2, (hw _ (by simp <;> omega)).trans r3, (hw _ (by simp <;> omega)).trans r4, (hw _ (by simp <;> omega)).trans r5, (hw _ (by simp <;> omega)).trans r6, (hw _ (by simp <;> omega)).trans r7, (hw _ (by simp <;> omega)).trans r8, (hw _ (by simp <;> omega)).trans r9, (hw _ (by simp <;> omega)).trans r10, (hw _ (by simp <;> omega)).trans r11, (hw _ (by simp <;> omega)).trans r12, (hw _ (by simp <;> omega)).trans r13, (hw _ (by simp <;> omega)).trans r14⟩
        go_region_held3 (fun wx => wx.cell? ⟨t, 1, none⟩ = some (.slice (some ⟨g, 0, none⟩) m cap) ∧ wx.cell? ⟨g, f.i * 10 + 7, none⟩ = some (.int .i64 f.sib.idx) ∧ wx.cell? ⟨g, f.i * 10 + 8, none⟩ = some (.int .i64 u.idx) ∧ wx.cell? ⟨g, u.idx * 10, none⟩ = some (.int .i64 u.box.x0) ∧ wx.cell? ⟨g, u.idx * 10 + 1, none⟩ = some (.int .i64 u.box.y0) ∧ wx.cell? ⟨g, u.idx * 10 + 2, none⟩ = some (.int .i64 u.box.z0) ∧ wx.cell? ⟨g, u.idx * 10 + 3, none⟩ = some (.int .i64 u.box.x1) ∧ wx.cell? ⟨g, u.idx * 10 + 4, none⟩ = some (.int .i64 u.box.y1) ∧ wx.cell? ⟨g, u.idx * 10 + 5, none⟩ = some (.int .i64 u.box.z1) ∧ wx.cell? ⟨g, f.sib.idx * 10, none⟩ = some (.int .i64 f.sib.box.x0) ∧ wx.cell? ⟨g, f.sib.idx * 10 + 1, none⟩ = some (.int .i64 f.sib.box.y0) ∧ wx.cell? ⟨g, f.sib.idx * 10 + 2, none⟩ = some (.int .i64 f.sib.box.z0) ∧ wx.cell? ⟨g, f.sib.idx * 10 + 3, none⟩ = some (.int .i64 f.sib.box.x1) ∧ wx.cell? ⟨g, f.sib.idx * 10 + 4, none⟩ = some (.int .i64 f.sib.box.y1) ∧ wx.cell? ⟨g, f.sib.idx * 10 + 5, none⟩ = some (.int .i64 f.sib.box.z1))
          (first | with_reducible exact HQ | with_reducible exact HE _ _ _ _ _ _ | go_keep)
          ((go_at_call 22; refine (join22_any _ _ _).mono ?_
            rintro e w2 ⟨rfl, hB⟩
            have HQ := HQ1.out w2 hB
            have HE := HE1.out w2 hB
            have qp0 := (hB.cell (p := ⟨g, f.i * 10, none⟩) (by exact hgl)).trans p0
            have qk0 := (hB.frozen (p := ⟨g, f.i * 10, none⟩) (by exact hgl)).trans k0
            have qp1 := (hB.cell (p := ⟨g, f.i * 10 + 1, none⟩) (by exact hgl)).trans p1
            have qk1 := (hB.frozen (p := ⟨g, f.i * 10 + 1, none⟩) (by exact hgl)).trans k1
            have qp2 := (hB.cell (p := ⟨g, f.i * 10 + 2, none⟩) (by exact hgl)).trans p2
            have qk2 := (hB.frozen (p := ⟨g, f.i * 10 + 2, none⟩) (by exact hgl)).trans k2
            have qp3 := (hB.cell (p := ⟨g, f.i * 10 + 3, none⟩) (by exact hgl)).trans p3
            have qk3 := (hB.frozen (p := ⟨g, f.i * 10 + 3, none⟩) (by exact hgl)).trans k3
            have qp4 := (hB.cell (p := ⟨g, f.i * 10 + 4, none⟩) (by exact hgl)).trans p4
            have qk4 := (hB.frozen (p := ⟨g, f.i * 10 + 4, none⟩) (by exact hgl)).trans k4
            have qp5 := (hB.cell (p := ⟨g, f.i * 10 + 5, none⟩) (by exact hgl)).trans p5
            have qk5 := (hB.frozen (p := ⟨g, f.i * 10 + 5, none⟩) (by exact hgl)).trans k5))
        obtain ⟨R, M⟩ := ((HR.out.drew).below hB).store [(0, .int .i64 (joinB f.sib.box u.box).x0), (1, .int .i64 (joinB f.sib.box u.box).y0), (2, .int .i64 (joinB f.sib.box u.box).z0), (3, .int .i64 (joinB f.sib.box u.box).x1), (4, .int .i64 (joinB f.sib.box u.box).y1), (5, .int .i64 (joinB f.sib.box u.box).z1)] (by simp) (setBox (joinB f.sib.box u.box)) X1.out (by rfl)
        have hst := HM.out.step
        simp only [hs, Bool.false_eq_true, if_false] at hst
        have hT2 : refitT d (stick f (joinB f.sib.box u.box) u) = refitT c s := by
          have := HT.out
          simp only [refitT, hs, Bool.false_eq_true, if_false] at this
          exact this
        simp only [wsets, List.foldl_cons, List.foldl_nil, Nat.add_zero] at R M
        have hgu : (qs.modify f.i (setBox (joinB f.sib.box u.box)))[f.i]? = some (setBox (joinB f.sib.box u.box) ⟨f.b, upOf d, _, _, hh⟩) := mod_self _ X1.out
        have MW : Mod (Foot t (.slice (some ⟨g, 0, none⟩) m cap) vf mb) w _ := (HW.out.trans (below_mod ((Below.refl wr.heap.size wr).drew.trans hB))).trans (M.mono (fun j _ hj => .inr (.inl (by rw [hj]; rfl))))
        clear HQ HE qp0 qk0 qp1 qk1 qp2 qk2 qp3 qk3 qp4 qk4 qp5 qk5 HQ1 HE1 M c1 p0 p1 p2 p3 p4 p5 p6 p7 p8 k0 k1 k2 k3 k4 k5 u0 u1 u2 u3 u4 u5 s0 s1 s2 s3 s4 s5 ht hown
        generalize ((((((w2.setCell _ _).setCell _ _).setCell _ _).setCell _ _).setCell _ _).setCell _ _) = wE at *
        have ht := R.1
        have c1 := ht.cell 1
        simp only [List.getElem?_cons_zero, List.getElem?_cons_succ] at c1
        have hown := R.2.1
        rw [List.length_modify, hql] at hown
        obtain ⟨_, _, _, _, _, _, p6, _⟩ := node_cells hown hgu
        have p6' : wE.cell? ⟨g, f.i * 10 + 6, none⟩ = some (.int .i64 (upOf d)) := p6
        have R2 := Lib.hid R
        have HST := Lib.hid hst
        have HT2 := Lib.hid hT2
        have HMW := Lib.hid MW
        clear p6 R hst hT2 MW hgu
        go_wp2
        go_roundg d.length
        case measure => simp
        case rel => exact ⟨d, _, _, rfl, rfl, HT2.out, by rw [List.length_modify]; exact hql, HST.out, R2.out, HMW.out⟩
end Go.Proofs.Ytadfmhjnmmmalaa
