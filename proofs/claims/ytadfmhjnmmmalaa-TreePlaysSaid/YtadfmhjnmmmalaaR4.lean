/- Trees: the reference's Drop. -/
import Derived.Test.YtadfmhjnmmmalaaR3
import Derived.Test.YtadfmhjnmmmalaaL7
namespace Go.Proofs.Ytadfmhjnmmmalaa
open Go.RowKit Go.Maps
theorem lf_one (L : List Lf) : ∀ u ∈ lfCells L, u.oneCell' = true := by
  intro u hu
  obtain ⟨x, _, h⟩ := List.mem_flatMap.1 hu
  simp only [encLf, Bx.cells, List.mem_cons, List.not_mem_nil, or_false] at h
  rcases h with rfl | rfl | rfl | rfl | rfl | rfl | rfl <;> rfl
theorem info88 : (Try.prog.info? 88).map (fun i => (i.zero, i.size, i.bytes)) = some (some (.agg #[.int .i64 0, .int .i64 0, .int .i64 0, .int .i64 0, .int .i64 0, .int .i64 0, .int .i64 0]), 7, 56) := by kernel_rfl
theorem lf_news {w : World} {B n g cap : Nat} {L : List Lf} (h : w.ownsRow B 88 7 (.slice (some ⟨g, 0, none⟩) n cap) n (lfCells L)) (A M C : List Lf) (hL : L = A ++ M ++ C) (off : Nat) (ho : off = A.length * 7) : ∀ j u, (lfCells M)[j]? = some u → w.cell? ((⟨g, off, none⟩ : Addr).add j) = some u := by
  intro j u hu
  have hl : (lfCells L).length = n * 7 := h.1
  have e : (lfCells L)[off + j]? = some u := by
    rw [hL, lf_append, lf_append, List.append_assoc, List.getElem?_append_right (by rw [lf_len]; omega), lf_len, ho, Nat.add_sub_cancel_left, List.getElem?_append_left (List.getElem?_eq_some_iff.1 hu).1]
    exact hu
  have h3 : off + j < n * 7 := by
    rw [← hl]
    exact (List.getElem?_eq_some_iff.1 e).1
  have := (Rd.of_own h).at h3
  rw [Nat.zero_add] at this
  rw [add_at, this, e]
/-- A new list is laid in the reference's tree. -/
theorem Ref.lay {w w1 : World} {q : Nat} {v u : Value} {room : Nat} {L M : List Lf} (h : Ref w q v room L) (hB : Below w.heap.size w w1) (hu : w1.ownsRow w.heap.size 88 7 u M.length (lfCells M)) :
    Ref (w1.setCell ⟨q, 0, none⟩ u) q u room M ∧ Turn (RefS q v) (RefS q u) w (w1.setCell ⟨q, 0, none⟩ u) := by
  have hq := h.1.lt
  have hb := (h.1.below hB hq).set 0 u
  have hne : ∀ b, u.ownBlock = some b → q ≠ b := fun b e e2 => by have := ownBlock_ge hu e; omega
  have hM : Mod (fun j => j = q) w1 (w1.setCell ⟨q, 0, none⟩ u) := (Mod.refl (fun j => j = q) w1).setCell (p := ⟨q, 0, none⟩) (fun _ => rfl) u
  refine ⟨⟨hb, own_base (own_keep hu (fun b _ e hh => hM.block b (Array.getElem?_eq_some_iff.1 hh).1 (fun e2 => hne b e e2.symm))) (Nat.zero_le _)⟩, ⟨hB.os, hB.tape, hB.output, Nat.le_trans hB.size hM.size, fun k hk hs => ?_⟩, fun j hj => ?_⟩
  · rw [hM.block k (Nat.lt_of_lt_of_le hk hB.size) (fun e => hs (.inl e)), hB.block k hk]
  · rcases hj with hj | hj
    · exact .inl (.inl hj)
    · exact .inr (ownBlock_ge hu hj)
theorem del_take {L : List Lf} (hL : Rises L) {i : Nat} {x : Lf} (hx : L[i]? = some x) : delL L x.1 = L.take i ++ L.drop (i + 1) := by
  obtain ⟨hlt, hx2⟩ := List.getElem?_eq_some_iff.1 hx
  have hsp : L = L.take i ++ x :: L.drop (i + 1) := by
    conv => lhs; rw [← List.take_append_drop i L, List.drop_eq_getElem_cons hlt, hx2]
  have hp : Rises (L.take i ++ x :: L.drop (i + 1)) := by rw [← hsp]; exact hL
  have h1 := List.pairwise_append.1 hp
  have h2 := List.pairwise_cons.1 h1.2.1
  have hA : ∀ z ∈ L.take i, z.1 < x.1 := fun z hz => h1.2.2 z hz x (by simp)
  have hC : ∀ z ∈ L.drop (i + 1), x.1 < z.1 := fun z hz => h2.1 z hz
  conv => lhs; rw [hsp]
  unfold delL
  rw [List.filter_append, List.filter_cons_of_neg (by simp), List.filter_eq_self.2 (fun z hz => by have := hA z hz; simp; omega), List.filter_eq_self.2 (fun z hz => by have := hC z hz; simp; omega)]
set_option maxRecDepth 100000 in
set_option maxHeartbeats 2000000 in
theorem drop25_any (q : Nat) (v : Value) (room : Nat) (L : List Lf) (hL : Rises L) (h : Int) (w : World) (hR : Ref w q v room L) (hLen : L.length ≤ 1024) :
    Calls Try.prog 25 #[.pointer (some ⟨q, 0, none⟩), .int .i64 h] w fun e w' => e = .returned (.int .i64 (if hasL L h then 0 else 81)) ∧ ∃ v', Ref w' q v' room (delL L h) ∧ Turn (RefS q v) (RefS q v') w w' := by
  obtain ⟨a, c, rfl, h1, h2⟩ := hR.shape
  obtain ⟨N, hN⟩ : ∃ N, N = L.length := ⟨_, rfl⟩
  have hN24 : N ≤ 1024 := by omega
  have HR := Lib.hid hR
  have HL := Lib.hid hL
  have HN := Lib.hid hN
  have c0 := hR.1.cell 0
  have c1 := hR.1.cell 1
  simp only [List.getElem?_cons_zero, List.getElem?_cons_succ] at c0 c1
  rw [← hN] at c0 h1
  clear hL hLen hN
  obtain ⟨i0, hi, hz0, hz1, hz2⟩ := info_parts info88
  cases hh : hasL L h with
  | false =>
    have Hh := Lib.hid hh
    clear hh
    go_enter Try.func25, Try.ntmps25
    go_wp2_with fail
    refine (place38_any q _ room L h w hR).mono ?_
    rintro e w1 ⟨rfl, ⟨i, x, rfl, hx, hh⟩ | ⟨rfl, hn⟩⟩
    · exact absurd hh (hasL_false Hh.out x (List.mem_of_getElem? hx))
    · clear hR hi hz0 hz1 hz2 c0 c1
      go_wp2
      go_ret
      exact ⟨rfl, _, by rw [del_none hn]; exact HR.out, Turn.refl _ _⟩
  | true =>
    have Hh := Lib.hid hh
    clear hh
    go_enter Try.func25, Try.ntmps25
    go_wp2_with fail
    refine (place38_any q _ room L h w hR).mono ?_
    rintro e w1 ⟨rfl, ⟨i, x, rfl, hx, hh⟩ | ⟨rfl, hn⟩⟩
    · have hiN : i < N := by rw [HN.out]; exact (List.getElem?_eq_some_iff.1 hx).1
      have hiI : (i : Int) < (N : Int) := by omega
      have hiI0 : ¬ (i : Int) < 0 := by omega
      have hiI1 : (i : Int) + 1 ≤ (N : Int) := by omega
      have hown := HR.out.2
      rw [← HN.out] at hown
      obtain ⟨g, gc, e0⟩ := own_addr hown (by omega)
      obtain ⟨rfl, -⟩ : a = some ⟨g, 0, none⟩ ∧ True := by cases e0; exact ⟨rfl, trivial⟩
      have hde : delL L h = L.take i ++ L.drop (i + 1) := by rw [← hh]; exact del_take HL.out hx
      have hLs : L.length = N := HN.out.symm
      have t1 : (lfCells (L.take i)).length = i * 7 := by rw [lf_len, List.length_take]; congr 1; omega
      have t2 : (lfCells (L.drop (i + 1))).length = (N - (i + 1)) * 7 := by rw [lf_len, List.length_drop, hLs]
      have n1 := lf_news hown [] (L.take i) (L.drop i) (by simp) 0 (by simp)
      have Hde := Lib.hid hde
      have T1 := Lib.hid t1
      have T2 := Lib.hid t2
      have H1 := Lib.hid n1
      have Hown := Lib.hid hown
      have hM : (L.take i ++ L.drop (i + 1)).length = i + (N - (i + 1)) := by rw [List.length_append, List.length_take, List.length_drop]; omega
      have HM := Lib.hid hM
      have hql := HR.out.1.lt
      have fz := HR.out.1.frozen 0
      clear hx hh hde hLs t1 t2 n1 hown e0 hM hR
      go_upto_region 6 with (first
        | (at_builtin; refine wpList_append_own_at _ rfl _ _ 65 rfl w1.heap.size 88 i0 (.agg #[.int .i64 0, .int .i64 0, .int .i64 0, .int .i64 0, .int .i64 0, .int .i64 0, .int .i64 0]) 7 56 Try.underlying65 hi hz0 hz1 hz2 rfl (by decide) _ 0 _ rfl (World.ownsRow_nil _ _ _ _) ⟨g, 0, none⟩ i c (lfCells (L.take i)) rfl T1.out H1.out (lf_one _) (by unfold maxLen; omega) (by omega) (Nat.le_refl _) ?_; intro v1 w2 o1 hg1 _ hv1)
        | go_in)
      rw [Nat.zero_add, List.nil_append] at o1
      have hB1 : Below w1.heap.size w1 w2 := ⟨hg1.os, hg1.tape, hg1.output, hg1.size, fun k hk => hg1.block k hk (fun e => by cases e)⟩
      have H2 := Lib.hid (lf_news (own_new Hown.out hB1) (L.take (i + 1)) (L.drop (i + 1)) [] (by simp) ((i + 1) * 7) (by rw [List.length_take]; have := HN.out; congr 1; omega))
      have HO1 := Lib.hid o1
      have HB1 := Lib.hid hB1
      obtain ⟨ua, uc, rfl, -, -⟩ := (Rd.of_own o1).shape
      have hRq := HR.out.1.below hB1 HR.out.1.lt
      have d0 := hRq.cell 0
      have fz2 := hRq.frozen 0
      simp only [List.getElem?_cons_zero] at d0
      rw [← HN.out] at d0
      have hfin : ∀ v2 w3, w3.ownsRow w1.heap.size 88 7 v2 (i + (N - (i + 1))) (lfCells (L.take i) ++ lfCells (L.drop (i + 1))) → w2.grownBy w3 (Value.slice ua i uc).ownBlock → w3.ownsRow w1.heap.size 88 7 v2 (L.take i ++ L.drop (i + 1)).length (lfCells (L.take i ++ L.drop (i + 1))) ∧ Below w1.heap.size w1 w3 := fun v2 w3 o2 hg2 => by
        rw [HM.out, lf_append]
        exact ⟨o2, HB1.out.trans ⟨hg2.os, hg2.tape, hg2.output, hg2.size, fun k hk => hg2.block k (by have := HB1.out.size; omega) (fun e => by have := ownBlock_ge HO1.out e.symm; omega)⟩⟩
      have Hfin := Lib.hid hfin
      have hcell : ∀ w3, Below w1.heap.size w1 w3 → w3.cell? ⟨q, 0, none⟩ = some (.slice (some ⟨g, 0, none⟩) N c) ∧ w3.frozen? ⟨q, 0, none⟩ = false := fun w3 h3 => by
        have h4 := HR.out.1.below h3 HR.out.1.lt
        have h5 := h4.cell 0
        simp only [List.getElem?_cons_zero] at h5
        rw [← HN.out] at h5
        exact ⟨h5, h4.frozen 0⟩
      have Hcell := Lib.hid hcell
      clear o1 hB1 hg1 hv1 H1 T1 c0 c1 fz hfin hcell hRq
      by_cases hcap : c = i + 1
      · subst hcap
        have HK : Hid (L.drop (i + 1) = []) := Lib.hid (List.drop_eq_nil_of_le (by rw [← HN.out]; exact h1))
        go_wp2_with (first
          | (at_builtin; refine wpList_append_own_at _ rfl _ _ 65 rfl w1.heap.size 88 i0 (.agg #[.int .i64 0, .int .i64 0, .int .i64 0, .int .i64 0, .int .i64 0, .int .i64 0, .int .i64 0]) 7 56 Try.underlying65 hi hz0 hz1 hz2 rfl (by decide) _ i _ rfl HO1.out ⟨g, 0, none⟩ 0 0 [] rfl rfl (by intro j u hu; cases hu) (by intro u hu; cases hu) (by unfold maxLen; omega) (by omega) HB1.out.size ?_; intro v2 w3 o2 hg2 _ hv2; obtain ⟨xa, xc, rfl, -, -⟩ := (Rd.of_own o2).shape; obtain ⟨f2, B2⟩ := Hfin.out _ w3 (by rw [HK.out, show N - (i + 1) = 0 by omega]; exact o2) hg2; obtain ⟨k0, k1⟩ := Hcell.out w3 B2)
          | go_in)
        go_ret
        rw [Hde.out]
        obtain ⟨r1, r2⟩ := HR.out.lay B2 f2
        exact ⟨rfl, _, r1, r2⟩
      · go_wp2_with (first
          | (at_builtin; refine wpList_append_own_at _ rfl _ _ 65 rfl w1.heap.size 88 i0 (.agg #[.int .i64 0, .int .i64 0, .int .i64 0, .int .i64 0, .int .i64 0, .int .i64 0, .int .i64 0]) 7 56 Try.underlying65 hi hz0 hz1 hz2 rfl (by decide) _ i _ rfl HO1.out ⟨g, (i + 1) * 7, none⟩ (N - (i + 1)) (c - (i + 1)) (lfCells (L.drop (i + 1))) rfl T2.out H2.out (lf_one _) (by unfold maxLen; omega) (by omega) HB1.out.size ?_; intro v2 w3 o2 hg2 _ hv2; obtain ⟨xa, xc, rfl, -, -⟩ := (Rd.of_own o2).shape; obtain ⟨f2, B2⟩ := Hfin.out _ w3 o2 hg2; obtain ⟨k0, k1⟩ := Hcell.out w3 B2)
          | go_in)
        go_ret
        rw [Hde.out]
        obtain ⟨r1, r2⟩ := HR.out.lay B2 f2
        exact ⟨rfl, _, r1, r2⟩
    · have h5 := boxOf_none.2 hn
      have h6 := Hh.out
      unfold hasL at h6
      rw [h5] at h6
      cases h6
end Go.Proofs.Ytadfmhjnmmmalaa
