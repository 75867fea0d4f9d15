/- Trees: going through who meets a box. -/
import Derived.Test.YtadfmhjnmmmalaaNa
import Derived.Test.YtadfmhjnmmmalaaRq
import Derived.Sort.LoopGhostIn
import Derived.Stop.RegionWithIn
namespace Go.Proofs.Ytadfmhjnmmmalaa
open Go.RowKit Go.Maps Go.Shelf
attribute [local go_sem] Oper.semAt_some
/-- Who is met, in the order of the stack. -/
def trav : T → Bx → List Int
  | .leaf _ h b, q => if meetB b q = true then [h] else []
  | .node _ b l r, q => if meetB b q = true then trav r q ++ trav l q else []
theorem cov_leaves : ∀ (t : T), Fit t → ∀ x ∈ t.leaves, Cov x.2.2 t.box
  | .leaf i h b, _, x, hx => by
    simp only [T.leaves, List.mem_singleton] at hx
    subst hx
    exact cov_refl _
  | .node i b l r, ⟨h1, h2, h3, h4⟩, x, hx => by
    simp only [T.leaves, List.mem_append] at hx
    rcases hx with hx | hx
    · exact fun c hc => h1 c (cov_leaves l h3 x hx c hc)
    · exact fun c hc => h2 c (cov_leaves r h4 x hx c hc)
theorem trav_perm : ∀ (t : T) (q : Bx), Fit t → (trav t q).Perm ((t.leaves.filter (fun x => meetB x.2.2 q)).map (·.1))
  | .leaf i h b, q, _ => by
    simp only [trav, T.leaves]
    cases hm : meetB b q <;> simp [hm]
  | .node i b l r, q, hf => by
    obtain ⟨h1, h2, h3, h4⟩ := id hf
    simp only [trav, T.leaves, List.filter_append, List.map_append]
    cases hm : meetB b q with
    | true =>
      rw [if_pos rfl]
      exact ((trav_perm r q h4).append (trav_perm l q h3)).trans List.perm_append_comm
    | false =>
      rw [if_neg (by simp)]
      have e : ∀ (ls : List (Int × Nat × Bx)), (∀ x ∈ ls, Cov x.2.2 b) → ls.filter (fun x => meetB x.2.2 q) = [] := fun ls hl => List.filter_eq_nil_iff.2 (fun x hx hc => by have := hl x hx q hc; rw [hm] at this; cases this)
      rw [e l.leaves (fun x hx c hc => h1 c (cov_leaves l h3 x hx c hc)), e r.leaves (fun x hx c hc => h2 c (cov_leaves r h4 x hx c hc))]
      exact List.Perm.refl _
/-- What is still to be gone through: the stack's trees, the last first. -/
def pend (st : List T) (q : Bx) : List Int := st.reverse.flatMap (fun t => trav t q)
theorem pend_pop (st : List T) (t : T) (q : Bx) : pend (st ++ [t]) q = trav t q ++ pend st q := by simp [pend]
def weigh (st : List T) : Nat := (st.map T.nodes).sum
theorem nodes_pos : ∀ t : T, 1 ≤ t.nodes
  | .leaf _ _ _ => Nat.le_refl _
  | .node _ _ _ _ => by simp only [T.nodes]; omega
theorem weigh_snoc (st : List T) (t : T) : weigh (st ++ [t]) = weigh st + t.nodes := by simp [weigh]
def idxI (st : List T) : List Int := st.map fun t => (t.idx : Int)
/-- The stack's own memory: rows of numbers. -/
def pvI (o : Obj) : Prop := ∃ cs fr, o = .cells cs 3 fr
theorem nodes_len : ∀ t : T, t.nodes = t.idxs.length
  | .leaf _ _ _ => rfl
  | .node _ _ l r => by
    have := nodes_len l
    have := nodes_len r
    simp only [T.nodes, T.idxs, List.length_cons, List.length_append]
    omega
theorem len_weigh : ∀ st : List T, st.length ≤ weigh st
  | [] => Nat.le_refl _
  | t :: st => by
    have := len_weigh st
    have := nodes_pos t
    unfold weigh at *
    simp only [List.length_cons, List.map_cons, List.sum_cons]
    omega
theorem trav_none {t : T} {q : Bx} (h : meetB t.box q = false) : trav t q = [] := by
  cases t with
  | leaf i hh b => simp only [T.box] at h; simp [trav, h]
  | node i b l r => simp only [T.box] at h; simp [trav, h]
set_option maxRecDepth 100000 in
set_option maxHeartbeats 4000000 in
theorem meeting_seq (n : Nat) (hn1 : 1 ≤ n) (bt bq t g m cap : Nat) (q : Bx) (vf : Value) (mb : Nat) (room : Int) (ns : List Nd) (fr : List Nat) (root : Int) (k : Nat) (D : DataW Unit) (T0 : T) (w : World) (hR : Raw w t (.slice (some ⟨g, 0, none⟩) m cap) vf mb room ns fr root k D) (hS : St ns fr root (some T0)) (hns : ns.length ≤ 2048) (hbt : Blk w bt 25 [.pointer (some ⟨t, 0, none⟩)]) (hbq : Blk w bq 34 q.cells) :
    SeqP Fence.wide n Try.prog 49 #[.pointer (some ⟨bt, 0, none⟩), .pointer (some ⟨bq, 0, none⟩)] (fun h : Int => #[.int .i64 h]) pvI (KeepB [bt, bq, t, g]) (trav T0 q) w := by
  obtain ⟨hH, hB, hF, hroot⟩ := hS
  obtain ⟨ri, hri⟩ : ∃ ri, ri = T0.idx := ⟨_, rfl⟩
  rw [← hri] at hroot
  subst hroot
  have hnl : T0.nodes ≤ 2048 := by
    rw [nodes_len]
    have := hB.2.2
    rw [List.length_append] at this
    omega
  have hml := hR.len
  obtain ⟨i0, hi, hz0, hz1, hz2⟩ := info_parts info3
  intro l J Jx W hW hJ hJx hY h0
  have hbtW := hbt.below hW hbt.lt
  have hbqW := hbq.below hW hbq.lt
  have hRW := hR.below hW
  have hownW := hRW.2.1
  rw [hml] at hownW
  obtain ⟨curg, hcg⟩ := own_cells hownW (g := g) rfl
  have hgB : Blk W g 79 curg.toList := by unfold Blk; rw [hcg]
  have cb := hbtW.cell 0
  have c3 := hRW.1.cell 3
  simp only [List.getElem?_cons_zero, List.getElem?_cons_succ] at cb c3
  have hr0 : ¬ (ri : Int) < 0 := by omega
  have hlt0 : ∀ b ∈ [bt, bq, t, g], b < W.heap.size := by
    intro b hb
    simp only [List.mem_cons, List.not_mem_nil, or_false] at hb
    rcases hb with rfl | rfl | rfl | rfl
    · exact hbtW.lt
    · exact hbqW.lt
    · exact hRW.1.lt
    · exact hgB.lt
  have Hri := Lib.hid hri
  have HH := Lib.hid hH
  have Hml := Lib.hid hml
  clear hri hH hml hB
  refine callsIn_of_wp Try.func49 rfl trivial ?_ rfl
  simp only [Try.ntmps49, List.size_toArray, List.length_cons, List.length_nil, Nat.reduceAdd, Nat.reduceSub, Array.replicate_succ, Array.replicate_zero, List.push_toArray, List.append_toArray, List.nil_append, List.cons_append]
  gi_wp2
  refine wpIn_scope ?_
  gi_wp2
  refine wpIn_label ?_
  gi_wp2
  gi_loopg [4, 5] T0.nodes (fun c v _ wr => ∃ (st : List T) (done : List Int), c = weigh st ∧ weigh st ≤ 2048 ∧ Hid (trav T0 q = done ++ pend st q) ∧ wr.ownsRow W.heap.size 3 1 v st.length (ints (idxI st)) ∧ Hid (∀ s ∈ st, ∃ up, Hold ns up s) ∧ J done wr ∧ KeepB [bt, bq, t, g] W wr ∧ W.heap.size ≤ wr.heap.size)
  case atStart =>
    refine ⟨[T0], [], by simp [weigh], by simp [weigh]; omega, Lib.hid (by simp [pend]), ?_, Lib.hid (fun s hs => ?_), ?_, fun b hb => ?_, by simp⟩
    · have e : ints (idxI [T0]) = [.int .i64 (ri : Int)] := by simp [ints, idxI, Hri.out]
      rw [e]
      exact ownsRow_blk (Blk.newAt (w := W) (b := W.heap.size) rfl 3 [.int .i64 (ri : Int)]) rfl (by decide) (Nat.le_refl _)
    · simp only [List.mem_singleton] at hs
      subst hs
      exact ⟨_, HH.out⟩
    · exact hJ _ _ _ none h0 (World.grownBy_alloc _ _ none) (fun r e => by cases e)
    · exact ((Below.refl _ W).alloc (Nat.le_refl _) _).block b (hlt0 b hb)
  case round =>
    obtain ⟨st, done, rfl, hwl, htr, hst, hhs, hJr, hKr, hsz⟩ := hrel
    rcases List.eq_nil_or_concat st with rfl | ⟨st', s, rfl⟩
    · obtain ⟨va, vc, rfl, _, _⟩ := (Rd.of_own hst).shape
      gi_wp2
      rw [Exit.noGoto_normal]
      have hd : trav T0 q = done := by rw [htr.out]; simp [pend]
      refine bodyPost_end (results_none rfl _ _ _) rfl ?_
      exact ⟨⟨_, rfl⟩, .inl (by rw [hd]; exact hJr)⟩
    · rw [List.concat_eq_append] at htr hst hhs hwl
      obtain ⟨N, hN⟩ : ∃ N, N = st'.length := ⟨_, rfl⟩
      rw [show (st' ++ [s]).length = N + 1 by simp [hN]] at hst
      obtain ⟨z, zc, rfl⟩ := own_addr hst (by omega)
      have hzz : N + 1 ≤ zc ∧ zc ≤ 9223372036854775807 := by
        obtain ⟨_, _, e, h1, h2⟩ := (Rd.of_own hst).shape
        cases e
        exact ⟨h1, h2⟩
      obtain ⟨hz1', hz2'⟩ := hzz
      have hNw : N + 1 ≤ 2048 := by
        have := len_weigh (st' ++ [s])
        simp only [List.length_append, List.length_singleton] at this
        omega
      obtain ⟨si, hsi⟩ : ∃ si, si = s.idx := ⟨_, rfl⟩
      have hz0' : wr.cell? ⟨z, N, none⟩ = some (.int .i64 (si : Int)) := by
        have := (Rd.of_own hst).at (i := N) (by omega)
        rw [Nat.zero_add] at this
        rw [this, show idxI (st' ++ [s]) = idxI st' ++ [(s.idx : Int)] by simp [idxI], ints_append, List.getElem?_append_right (by simp [ints, idxI, hN])]
        simp [ints, idxI, hN, hsi]
      obtain ⟨up, hup⟩ := hhs.out s (by simp)
      obtain ⟨x, hx, hxb, hxu⟩ := hup.at
      have hbtr := hbtW.keep (hKr bt (by simp))
      have hbqr := hbqW.keep (hKr bq (by simp))
      have htr' := hRW.1.keep (hKr t (by simp))
      have cbr := hbtr.cell 0
      have c1r := htr'.cell 1
      simp only [List.getElem?_cons_zero, List.getElem?_cons_succ] at cbr c1r
      have hownr := own_keep hownW (w' := wr) (fun b cur e hh => by cases e; exact hKr g (by simp))
      have hx' : ns[si]? = some x := by rw [hsi]; exact hx
      obtain ⟨p0, p1, p2, p3, p4, p5, p6, p7, p8, p9⟩ := node_cells hownr hx'
      have hsl := (List.getElem?_eq_some_iff.1 hx').1
      have hsI : (si : Int) < (m : Int) := by have := Hml.out; omega
      have hNI : (0 : Int) < (N : Int) + 1 := by omega
      have hzI : (N : Int) ≤ (zc : Int) := by omega
      have hkind : Hid ((∃ b, s = .leaf si x.h b ∧ x.left = -1 ∧ x.b = b) ∨ (∃ l r b, s = .node si b l r ∧ x.left = (l.idx : Int) ∧ x.right = (r.idx : Int) ∧ x.b = b ∧ Hold ns si l ∧ Hold ns si r)) := by
        refine Lib.hid ?_
        cases s with
        | leaf i hh b =>
          simp only [T.idx] at hsi hx
          subst hsi
          simp only [Hold] at hup
          rw [hup] at hx'
          cases hx'
          exact .inl ⟨b, rfl, rfl, rfl⟩
        | node i b l r =>
          simp only [T.idx] at hsi hx
          subst hsi
          obtain ⟨⟨hh, h1⟩, h2, h3⟩ := hup
          rw [h1] at hx'
          cases hx'
          exact .inr ⟨l, r, b, rfl, rfl, rfl, rfl, h2, h3⟩
      have hpost : trav T0 q = done ++ (trav s q ++ pend st' q) := by rw [htr.out, pend_pop]
      have Hpost := Lib.hid hpost
      have hws : weigh (st' ++ [s]) = weigh st' + s.nodes := weigh_snoc st' s
      have Hws := Lib.hid hws
      have hxu0 : x.b = s.box := hxb
      clear hpost hws
      have Hx := Lib.hid hx'
      have Hsi := Lib.hid hsi
      have HN := Lib.hid hN
      have Hup := Lib.hid hup
      have Hxb := Lib.hid hxb
      have Hhs := Lib.hid (show ∀ s' ∈ st', ∃ up, Hold ns up s' from fun s' h => hhs.out s' (by simp [h]))
      have Hown : Hid (wr.ownsRow W.heap.size 3 1 (.slice (some ⟨z, 0, none⟩) N zc) N (ints (idxI st'))) := by
        have := own_cut (m := N) hst (by omega)
        rw [show idxI (st' ++ [s]) = idxI st' ++ [(s.idx : Int)] by simp [idxI], ints_append, List.take_left' (by simp [ints, idxI, HN.out])] at this
        exact Lib.hid this
      have hzg : W.heap.size ≤ z := ownBlock_ge hst rfl
      obtain ⟨zcur, hzcur⟩ := own_cells hst (g := z) rfl
      clear hx hx' hsi hN hup hxb hxu hhs hsl
      have Hxu0 := Lib.hid hxu0
      clear hxu0
      gi_wp2
      refine wpIn_wide.2 ?_
      have hA0 : (N : Int) + 1 - 1 = (N : Int) := by omega
      have hA1 : IntKind.i64.wrap (N : Int) = (N : Int) := by exact IntWalk.i64_in _ (by omega)
      have hA2 : (N : Int) < (N : Int) + 1 := by omega
      have hA3 : (0 : Int) ≤ (N : Int) := by omega
      have hA4 : (0 : Int) ≤ (si : Int) := by omega
      have lbr := hbtr.lt
      have ltr := htr'.lt
      have lzr : z < wr.heap.size := own_lt hst (r := z) rfl
      have lgr := own_lt hownr (r := g) rfl
      have HQ : Hid (∀ W, Below wr.heap.size wr W → (fun wx => wx.cell? ⟨bt, 0, none⟩ = some (.pointer (some ⟨t, 0, none⟩)) ∧ wx.cell? ⟨t, 1, none⟩ = some (.slice (some ⟨g, 0, none⟩) m cap) ∧ wx.cell? ⟨z, N, none⟩ = some (.int .i64 (si : Int)) ∧ wx.cell? ⟨g, si * 10, none⟩ = some (.int .i64 x.b.x0) ∧ wx.cell? ⟨g, si * 10 + 1, none⟩ = some (.int .i64 x.b.y0) ∧ wx.cell? ⟨g, si * 10 + 2, none⟩ = some (.int .i64 x.b.z0) ∧ wx.cell? ⟨g, si * 10 + 3, none⟩ = some (.int .i64 x.b.x1) ∧ wx.cell? ⟨g, si * 10 + 4, none⟩ = some (.int .i64 x.b.y1) ∧ wx.cell? ⟨g, si * 10 + 5, none⟩ = some (.int .i64 x.b.z1) ∧ wx.cell? ⟨g, si * 10 + 6, none⟩ = some (.int .i64 x.up) ∧ wx.cell? ⟨g, si * 10 + 7, none⟩ = some (.int .i64 x.left) ∧ wx.cell? ⟨g, si * 10 + 8, none⟩ = some (.int .i64 x.right) ∧ wx.cell? ⟨g, si * 10 + 9, none⟩ = some (.int .i64 x.h)) W) := Lib.hid fun W hW => ⟨(hW.cell (by exact lbr)).trans cbr, (hW.cell (by exact ltr)).trans c1r, (hW.cell (by exact lzr)).trans hz0', (hW.cell (by exact lgr)).trans p0, (hW.cell (by exact lgr)).trans p1, (hW.cell (by exact lgr)).trans p2, (hW.cell (by exact lgr)).trans p3, (hW.cell (by exact lgr)).trans p4, (hW.cell (by exact lgr)).trans p5, (hW.cell (by exact lgr)).trans p6, (hW.cell (by exact lgr)).trans p7, (hW.cell (by exact lgr)).trans p8, (hW.cell (by exact lgr)).trans p9⟩
      have HBc := (Below.refl wr.heap.size wr).drew
      have HBw : Below wr.heap.size wr (wr.alloc (.cells x.cells.toArray 79)).drew := ((Below.refl _ _).alloc (Nat.le_refl _) _).drew
      have hnb : Blk (wr.alloc (.cells x.cells.toArray 79)).drew wr.heap.size 79 x.cells := (Blk.newAt (w := wr) (b := wr.heap.size) rfl 79 x.cells).drew
      have HJw := Lib.hid (And.intro HBw hnb)
      clear HBw hnb
      go_region_held3 (fun wx => wx.cell? ⟨bt, 0, none⟩ = some (.pointer (some ⟨t, 0, none⟩)) ∧ wx.cell? ⟨t, 1, none⟩ = some (.slice (some ⟨g, 0, none⟩) m cap) ∧ wx.cell? ⟨z, N, none⟩ = some (.int .i64 (si : Int)) ∧ wx.cell? ⟨g, si * 10, none⟩ = some (.int .i64 x.b.x0) ∧ wx.cell? ⟨g, si * 10 + 1, none⟩ = some (.int .i64 x.b.y0) ∧ wx.cell? ⟨g, si * 10 + 2, none⟩ = some (.int .i64 x.b.z0) ∧ wx.cell? ⟨g, si * 10 + 3, none⟩ = some (.int .i64 x.b.x1) ∧ wx.cell? ⟨g, si * 10 + 4, none⟩ = some (.int .i64 x.b.y1) ∧ wx.cell? ⟨g, si * 10 + 5, none⟩ = some (.int .i64 x.b.z1) ∧ wx.cell? ⟨g, si * 10 + 6, none⟩ = some (.int .i64 x.up) ∧ wx.cell? ⟨g, si * 10 + 7, none⟩ = some (.int .i64 x.left) ∧ wx.cell? ⟨g, si * 10 + 8, none⟩ = some (.int .i64 x.right) ∧ wx.cell? ⟨g, si * 10 + 9, none⟩ = some (.int .i64 x.h)) (first | with_reducible exact HQ.out _ ((Below.refl _ _).drew) | with_reducible exact HQ.out _ (((Below.refl _ _).alloc (Nat.le_refl _) _).drew)) (fail)
      obtain ⟨w1, hw1⟩ : ∃ w1, (wr.alloc (.cells x.cells.toArray 79)).drew = w1 := ⟨_, rfl⟩
      change Exit.then _ _ _ _ (wr.alloc (.cells x.cells.toArray 79)).drew
      rw [hw1] at HJw ⊢
      clear hw1 HQ HBc p0 p1 p2 p3 p4 p5 p6 p7 p8 p9 cbr c1r hz0'
      obtain ⟨hB1, hnb⟩ := HJw.out
      have n0 : _ = some (Value.int .i64 x.b.x0) := hnb.cell 0
      have n1 : _ = some (Value.int .i64 x.b.y0) := hnb.cell 1
      have n2 : _ = some (Value.int .i64 x.b.z0) := hnb.cell 2
      have n3 : _ = some (Value.int .i64 x.b.x1) := hnb.cell 3
      have n4 : _ = some (Value.int .i64 x.b.y1) := hnb.cell 4
      have n5 : _ = some (Value.int .i64 x.b.z1) := hnb.cell 5
      have hbq1 := hbqr.below hB1 hbqr.lt
      have q0 : _ = some (Value.int .i64 q.x0) := hbq1.cell 0
      have q1 : _ = some (Value.int .i64 q.y0) := hbq1.cell 1
      have q2 : _ = some (Value.int .i64 q.z0) := hbq1.cell 2
      have q3 : _ = some (Value.int .i64 q.x1) := hbq1.cell 3
      have q4 : _ = some (Value.int .i64 q.y1) := hbq1.cell 4
      have q5 : _ = some (Value.int .i64 q.z1) := hbq1.cell 5
      have HNb := Lib.hid hnb
      clear hi hz0 hz1 hz2
      gi_wp2
      refine ⟨trivial, ?_⟩
      gi_at_call 20
      refine (callsIn_wide.2 (meet20_any x.b q w1)).mono ?_
      rintro e w2 ⟨rfl, hB2⟩
      have hBB : Below wr.heap.size wr w2 := hB1.trans (hB2.mono hB1.size)
      have hJ2 : J done w2 := hJ _ _ _ none hJr ⟨hBB.os, hBB.tape, hBB.output, hBB.size, fun k hk _ => hBB.block k hk⟩ (fun r e => by cases e)
      have hK2 : KeepB [bt, bq, t, g] W w2 := fun b hb => (hBB.block b (by have := hlt0 b hb; omega)).trans (hKr b hb)
      have hs2 := hBB.size
      have hnb2 := hnb.below hB2 hnb.lt
      have n6 : _ = some (Value.int .i64 x.left) := hnb2.cell 7
      have n7 : _ = some (Value.int .i64 x.right) := hnb2.cell 8
      have n8 : _ = some (Value.int .i64 x.h) := hnb2.cell 9
      have HO2 := Lib.hid (own_new Hown.out hBB)
      have hz2c : w2.heap[z]? = some (.cells zcur 3 (0, 0)) := by rw [hBB.block z lzr]; exact hzcur
      cases hm : meetB x.b q with
      | false =>
        clear n0 n1 n2 n3 n4 n5 n6 n7 n8 q0 q1 q2 q3 q4 q5
        gi_wp2
        go_roundg (weigh st')
        case measure => rw [List.concat_eq_append]; have := Hws.out; have := nodes_pos s; omega
        case rel =>
          refine ⟨st', done, rfl, by have := Hws.out; omega, ?_, ?_, Lib.hid Hhs.out, hJ2, hK2, by omega⟩
          · refine Lib.hid ?_
            rw [Hpost.out, trav_none (by rw [← Hxu0.out]; exact hm)]
            rfl
          · rw [show st'.length = N from HN.out.symm]
            exact HO2.out
      | true =>
        rcases hkind.out with ⟨b, rfl, hl, hxb⟩ | ⟨lt, rt, b, rfl, hl, hr, hxb, hhl, hhr⟩
        · rw [hl] at n6
          have htl : trav (T.leaf si x.h b) q = [x.h] := by simp [trav, ← hxb, hm]
          obtain ⟨fn, tmps, assign, body, hy, hR⟩ := (hY done x.h w2 hJ2 ⟨pend st' q, by rw [Hpost.out, htl]; rfl⟩).mono (R' := fun e W' => ∃ b, e = .returned (.bool b) ∧ ((b = true ∧ J (done ++ [x.h]) W' ∧ KeepB [bt, bq, t, g] w2 W' ∧ KeepP pvI w2 W') ∨ (b = false ∧ Jx (done ++ [x.h]) W')))
            (fun e W' h => by rcases h with ⟨rfl, h⟩ | ⟨rfl, h⟩; exact ⟨true, rfl, .inl ⟨rfl, h⟩⟩; exact ⟨false, rfl, .inr ⟨rfl, h⟩⟩)
          clear n0 n1 n2 n3 n4 n5 n7 q0 q1 q2 q3 q4 q5
          have Hxb := Lib.hid hxb
          have Htl := Lib.hid htl
          clear hxb htl
          gi_wp2
          refine hR.mono ?_
          rintro e W3 ⟨b', rfl, hb⟩
          rcases hb with ⟨rfl, hJ3, hk3, hp3⟩ | ⟨rfl, hJx3⟩
          · gi_wp2
            go_roundg (weigh st')
            case measure => rw [List.concat_eq_append]; have := Hws.out; have := nodes_pos (T.leaf si x.h b); omega
            case rel =>
              refine ⟨st', done ++ [x.h], rfl, by have := Hws.out; omega, Lib.hid ?_, ?_, Lib.hid Hhs.out, hJ3, hK2.trans hk3, ?_⟩
              · rw [Hpost.out, Htl.out, List.append_assoc]
              · rw [show st'.length = N from HN.out.symm]
                exact own_keep HO2.out (fun g cur _ hh => (hp3 g _ hh ⟨_, _, rfl⟩).trans hh.symm)
              · have := (Array.getElem?_eq_some_iff.1 (hp3 z _ hz2c ⟨_, _, rfl⟩)).1
                omega
          · gi_wp2
            rw [Exit.noGoto_normal]
            refine bodyPost_end (results_none rfl _ _ _) rfl ?_
            exact ⟨⟨_, rfl⟩, .inr ⟨_, ⟨pend st' q, by rw [Hpost.out, Htl.out, List.append_assoc]⟩, hJx3⟩⟩
        · obtain ⟨li, hli⟩ : ∃ li, li = lt.idx := ⟨_, rfl⟩
          obtain ⟨rj, hrj⟩ : ∃ rj, rj = rt.idx := ⟨_, rfl⟩
          rw [hl, ← hli] at n6
          rw [hr, ← hrj] at n7
          have htn : trav (T.node si b lt rt) q = trav rt q ++ trav lt q := by simp [trav, ← hxb, hm]
          have Hxb := Lib.hid hxb
          have Htn := Lib.hid htn
          have Hli := Lib.hid hli
          have Hrj := Lib.hid hrj
          have hli0 : (0 : Int) ≤ (li : Int) := by omega
          clear hxb htn hl hr hli hrj n0 n1 n2 n3 n4 n5 n8 q0 q1 q2 q3 q4 q5
          obtain ⟨i0, hi, hz0, hz1, hz2⟩ := info_parts info3
          gi_wp2_with (gi_at_builtin
                       refine wpListIn_append_own _ rfl _ _ 49 rfl W.heap.size 3 i0 (.int .i64 0) 1 8 Try.underlying49 hi hz0 hz1 hz2 rfl (by decide) _ _ _ rfl (HO2.out.alloc _) ⟨w2.heap.size, 0, none⟩ 2 2 [.int .i64 li, .int .i64 rj] rfl rfl (World.news_of_block (cs := #[.int .i64 li, .int .i64 rj]) (t := 3) (fr := (0, 0)) (heap_alloc_new w2 _)) (by simp [Value.oneCell']) (by unfold maxLen; omega) (by omega) (by simp; omega) ?_
                       intro v1 w3 o3 hg1 _)
          have hgB : (w2.alloc (.cells #[.int .i64 li, .int .i64 rj] 3)).grownBy w3 (some z) := hg1
          have hzl : z < w2.heap.size := by omega
          have hgK : ∀ b, b < w2.heap.size → b ≠ z → w3.heap[b]? = w2.heap[b]? := fun b hb hne => by
            rw [hgB.block b (by simp; omega) (fun e => by cases e; exact hne rfl)]
            exact ((Below.refl _ w2).alloc (Nat.le_refl _) _).block b hb
          have hw2w : weigh (st' ++ [lt, rt]) = weigh st' + (lt.nodes + rt.nodes) := by simp [weigh]
          have hnn : (T.node si b lt rt).nodes = 1 + lt.nodes + rt.nodes := rfl
          go_roundg (weigh (st' ++ [lt, rt]))
          case measure => rw [List.concat_eq_append]; have := Hws.out; omega
          case rel =>
            refine ⟨st' ++ [lt, rt], done, rfl, by have := Hws.out; omega, Lib.hid ?_, ?_, Lib.hid ?_, ?_, ?_, ?_⟩
            · rw [Hpost.out, Htn.out]
              simp [pend]
            · have e1 : (st' ++ [lt, rt]).length = N + 2 := by simp [HN.out]
              have e2 : ints (idxI (st' ++ [lt, rt])) = ints (idxI st') ++ [.int .i64 (li : Int), .int .i64 (rj : Int)] := by simp [ints, idxI, Hli.out, Hrj.out]
              rw [e1, e2]
              exact o3
            · intro s' hs'
              rcases List.mem_append.1 hs' with h | h
              · exact Hhs.out s' h
              · simp only [List.mem_cons, List.not_mem_nil, or_false] at h
                rcases h with rfl | rfl
                · exact ⟨_, hhl⟩
                · exact ⟨_, hhr⟩
            · exact hJ _ _ _ (some z) (hJ _ _ _ none hJ2 (World.grownBy_alloc _ _ none) (fun r e => by cases e)) hgB (fun r e => by
                cases e
                exact ⟨hzg, _, (((Below.refl _ w2).alloc (Nat.le_refl _) _).block z hzl).trans hz2c, .inr ⟨_, _, rfl⟩⟩)
            · intro b hb
              have := hlt0 b hb
              exact (hgK b (by omega) (by omega)).trans (hK2 b hb)
            · have := hgB.size
              simp only [World.size_alloc] at this
              omega
end Go.Proofs.Ytadfmhjnmmmalaa
