/- The reference's queue. -/
import Derived.Test.YtlcmjpligaiadaaEc
namespace Go.Proofs.Ytlcmjpligaiadaa
open Go.RowKit
structure RQ (w : World) (r base : Nat) (v : Value) (n : Nat) (L : List Ev) : Prop where
  head : Blk w r 113 [v, .int .i64 n]
  own : w.ownsRow base 56 3 v L.length (evCells L)
  full : L.length ≤ n
  room : n ≤ 1024
theorem RQ.new {w w' : World} {r base n : Nat} {v : Value} {L : List Ev} (h : RQ w r base v n L) (hB : Below w.heap.size w w') : RQ w' r base v n L :=
  ⟨h.head.below hB h.head.lt, own_new h.own hB, h.full, h.room⟩
theorem RQ.lt {w : World} {r base n : Nat} {v : Value} {L : List Ev} (h : RQ w r base v n L) {j : Nat} (hj : Foot r v j) : j < w.heap.size := by
  rcases hj with rfl | hj
  · exact h.head.lt
  · exact own_lt h.own hj
theorem RQ.mod {S : Nat → Prop} {w w' : World} {r base n : Nat} {v : Value} {L : List Ev} (h : RQ w r base v n L) (hm : Mod S w w') (hd : ∀ j, Foot r v j → ¬ S j) : RQ w' r base v n L :=
  ⟨h.head.mod hm (hd r (.inl rfl)), own_keep h.own (fun g _ e hc => hm.block g (Array.getElem?_eq_some_iff.1 hc).1 (hd g (.inr e))), h.full, h.room⟩
theorem RQ.ne {w : World} {r base n : Nat} {v : Value} {L : List Ev} (h : RQ w r base v n L) : v.ownBlock ≠ some r := own_ne h.own h.head (by decide)
theorem rqnew_bad (room : Int) (w : World) (h : room < 1 ∨ 1024 < room) :
    Calls Try.prog 48 #[.int .i64 room] w fun e w' => e = .returned (.tuple #[.pointer none, .int .i64 1]) ∧ w = w' := by
  by_cases h1 : room < 1
  · go_enter Try.func48, Try.ntmps48
    go_wp2
    go_ret2
    exact ⟨rfl, rfl⟩
  · have h2 : 1024 < room := by omega
    clear h
    go_enter Try.func48, Try.ntmps48
    go_wp2
    go_ret2
    exact ⟨rfl, rfl⟩
theorem rqnew_ok (n : Nat) (base : Nat) (w : World) (h1 : 1 ≤ n) (h2 : n ≤ 1024) :
    Calls Try.prog 48 #[.int .i64 (n : Int)] w fun e w' => e = .returned (.tuple #[.pointer (some ⟨w.heap.size, 0, none⟩), .int .i64 0]) ∧ RQ w' w.heap.size base (.slice none 0 0) n [] ∧ Below w.heap.size w w' := by
  have n1 : (1 : Int) ≤ (n : Int) := by omega
  have n2 : (n : Int) ≤ 1024 := by omega
  go_enter Try.func48, Try.ntmps48
  go_wp2
  go_ret2
  exact ⟨rfl, ⟨Blk.new w 113 [_, _], World.ownsRow_nil _ _ _ _, Nat.zero_le _, h2⟩, (Below.refl _ w).alloc (Nat.le_refl _) _⟩
theorem rqfree_any (r base n m : Nat) (v : Value) (L : List Ev) (hm : L.length = m) (w : World) (h : RQ w r base v n L) :
    Calls Try.prog 52 #[.pointer (some ⟨r, 0, none⟩)] w fun e w' => e = .returned (.int .i64 ((n - m : Nat) : Int)) ∧ ∃ d, w' = w.drewN d := by
  obtain ⟨sa, sc, rfl, s1, s2⟩ := (Rd.of_own h.own).shape
  have c0 := h.head.cell 0
  have c1 := h.head.cell 1
  simp only [List.getElem?_cons_zero, List.getElem?_cons_succ] at c0 c1
  have h1 := h.full
  have h2 := h.room
  rw [hm] at c0 h1 s1
  have h3 : (m : Int) ≤ 1024 := by omega
  have h4 : (n : Int) ≤ 1024 := by omega
  have h5 := Lib.hid (show (n : Int) - (m : Int) = ((n - m : Nat) : Int) by omega)
  clear hm h
  go_enter Try.func52, Try.ntmps52
  go_wp2
  go_quiet (fail)
  go_wp2
  go_ret
  exact ⟨ret_int h5.out, _, rfl⟩
def AllR (L : List Ev) (m : Nat) (w : World) (e : Ending) (w' : World) : Prop :=
  ∃ ov, e = .returned ov ∧ Rd w' ov m 3 (evCells L) ∧ Below w.heap.size w w'
set_option maxRecDepth 100000 in
theorem rqall_any (r base n m : Nat) (v : Value) (L : List Ev) (hm : L.length = m) (w : World) (h : RQ w r base v n L) :
    Calls Try.prog 53 #[.pointer (some ⟨r, 0, none⟩)] w (AllR L m w) := by
  obtain ⟨i0, hi, hz0, hz1, hz2⟩ := info_parts info56
  have hrd := Rd.of_own h.own
  obtain ⟨sa, sc, rfl, s1, s2⟩ := hrd.shape
  have c0 := h.head.cell 0
  simp only [List.getElem?_cons_zero] at c0
  have h1 := h.full
  have h2 := h.room
  rw [hm] at c0 h1 hrd s1
  clear hm h
  go_enter Try.func53, Try.ntmps53
  go_wp2_with (at_builtin; refine wpList_append_rd rfl _ _ 53 rfl w.heap.size 56 i0 (.agg #[.int .i64 0, .int .i64 0, .int .i64 0]) 3 24 Try.underlying53 hi hz0 hz1 hz2 rfl (by decide) _ 0 [] rfl (World.ownsRow_nil _ _ _ _) _ m (evCells L) rfl hrd (ev_one L) (by unfold maxLen; omega) (by omega) (Nat.le_refl _) ?_; intro v1 w1 o1 g1 q1)
  go_ret
  refine ⟨_, rfl, ?_, (Below.refl _ w).grown g1 (Nat.le_refl _) (fun r hr => by have h0 : (Value.slice none 0 0).ownBlock = some r := hr; simp [Value.ownBlock] at h0)⟩
  have := Rd.of_own o1
  simpa using this
def RQPost (r base : Nat) (v : Value) (n : Nat) (L' : List Ev) (w w' : World) : Prop :=
  ∃ v', RQ w' r base v' n L' ∧ Mod (Foot r v) w w' ∧ ∀ j, Foot r v' j → Foot r v j ∨ w.heap.size ≤ j
def RPushC (r base : Nat) (v : Value) (n m : Nat) (L es : List Ev) (k : Nat) (w : World) (e : Ending) (w' : World) : Prop :=
  (k ≤ n - m ∧ e = .returned (.int .i64 0) ∧ RQPost r base v n (L ++ es) w w' ∨ ¬ k ≤ n - m ∧ e = .returned (.int .i64 190) ∧ RQPost r base v n L w w')
set_option maxRecDepth 100000 in
set_option maxHeartbeats 1000000 in
theorem rqpush_any (r base n m : Nat) (v lv : Value) (k : Nat) (L es : List Ev) (hm : L.length = m) (hk : es.length = k) (w : World) (hb : base ≤ w.heap.size) (h : RQ w r base v n L) (hr : Rd w lv k 3 (evCells es)) :
    Calls Try.prog 51 #[.pointer (some ⟨r, 0, none⟩), lv] w (RPushC r base v n m L es k w) := by
  obtain ⟨i0, hi, hz0, hz1, hz2⟩ := info_parts info56
  obtain ⟨sa, sc, rfl, s1, s2⟩ := (Rd.of_own h.own).shape
  obtain ⟨la, lc, rfl, l1, l2⟩ := hr.shape
  have c0 := h.head.cell 0
  have c1 := h.head.cell 1
  have k0 := h.head.frozen 0
  simp only [List.getElem?_cons_zero, List.getElem?_cons_succ] at c0 c1
  have h1 := h.full
  have h2 := h.room
  have hown := h.own
  have hh := Lib.hid h
  rw [hm] at c0 h1 s1 hown
  have Hm := Lib.hid hm
  have Hk := Lib.hid hk
  have h3 : (m : Int) ≤ 1024 := by omega
  have h4 : (n : Int) ≤ 1024 := by omega
  clear hm hk h
  by_cases hfit : k ≤ n - m
  · have hd : decide ((n : Int) - (m : Int) < (k : Int)) = false := by simp; omega
    have hd2 : ¬ (n : Int) - (m : Int) < (k : Int) := by omega
    go_enter Try.func51, Try.ntmps51
    go_wp2
    go_quiet (fail)
    generalize hW : World.drewN w _ = W
    have BW : Below w.heap.size w W := by rw [← hW]; exact Below.drewN' (Below.refl _ _) _
    clear hW
    have hH := hh.out.new BW
    have hownW := own_new hown BW
    have hrW := hr.new BW
    have d0 := hH.head.cell 0
    have e0 := hH.head.frozen 0
    simp only [List.getElem?_cons_zero] at d0
    rw [Hm.out] at d0
    have hHd := Lib.hid hH
    clear hH
    have hBs := BW.size
    go_wp2_with (at_builtin; refine wpList_append_rd rfl _ _ 53 rfl base 56 i0 (.agg #[.int .i64 0, .int .i64 0, .int .i64 0]) 3 24 Try.underlying53 hi hz0 hz1 hz2 rfl (by decide) _ m (evCells L) rfl hownW _ k (evCells es) rfl hrW (ev_one es) (by unfold maxLen; omega) (by omega) (by omega) ?_
                 intro v1 w1 o1 g1 q1
                 obtain ⟨va, vc, rfl, _, _⟩ := (Rd.of_own o1).shape
                 have hd1 := hHd.out.head.grown g1 (own_ne hownW (by have := hHd.out.head; rw [Hm.out] at this; exact this) (by decide))
                 rw [Hm.out] at hd1
                 have x0 := hd1.cell 0
                 have x1 := hd1.frozen 0
                 simp only [List.getElem?_cons_zero] at x0)
    go_ret
    have hn1 := own_ne o1 hd1 (by decide)
    refine .inl ⟨hfit, rfl, _, ⟨hd1.set 0 _, ?_, ?_, h2⟩, ?_, ?_⟩
    · rw [List.length_append, Hm.out, Hk.out, ev_append]
      exact ownsRow_setCell_other (a := ⟨r, 0, none⟩) o1 hn1 _
    · rw [List.length_append, Hm.out, Hk.out]; omega
    · refine Mod.setCell (p := ⟨r, 0, none⟩) ?_ (fun _ => .inl rfl) _
      refine (below_mod BW).trans ((mod_grown g1).mono fun j _ e => .inr ?_)
      rw [Hm.out]; exact e
    · rintro j (rfl | e)
      · exact .inl (.inl rfl)
      · rcases q1 with q | q
        · refine .inl (.inr ?_)
          rw [Hm.out]
          exact q.symm.trans e
        · rw [q] at e
          simp at e
          exact .inr (by omega)
  · have hd : decide ((n : Int) - (m : Int) < (k : Int)) = true := by simp; omega
    have hd2 : (n : Int) - (m : Int) < (k : Int) := by omega
    go_enter Try.func51, Try.ntmps51
    go_wp2
    go_quiet (fail)
    go_wp2
    go_ret
    exact .inr ⟨hfit, rfl, _, hh.out.new (Below.drewN' (Below.refl _ _) _), below_mod (Below.drewN' (Below.refl _ _) _), fun j e => .inl e⟩
set_option maxRecDepth 100000 in
set_option maxHeartbeats 1000000 in
theorem rqtake_none (r base n : Nat) (v : Value) (w : World) (h : RQ w r base v n []) :
    Calls Try.prog 49 #[.pointer (some ⟨r, 0, none⟩)] w fun e w' => e = .returned (.tuple #[encVal ⟨0, 0, 0⟩, .bool false]) ∧ Below w.heap.size w w' := by
  obtain ⟨sa, sc, rfl, s1, s2⟩ := (Rd.of_own h.own).shape
  have c0 : w.cell? ⟨r, 0, none⟩ = some (.slice sa 0 sc) := h.head.cell 0
  have hq := h.head.lt
  go_enter Try.func49, Try.ntmps49
  go_wp2
  refine bodyPost_ret (v := .tuple #[encVal ⟨0, 0, 0⟩, .bool false]) (by simp [results, Try.f49, go_sem, encVal]) rfl ⟨rfl, ?_⟩
  repeat' (first | exact Below.refl _ _ | refine Below.drew ?_ | refine Below.alloc ?_ (by simp) _)
def RTakeC (r base : Nat) (v : Value) (n : Nat) (e : Ev) (L : List Ev) (w : World) (x : Ending) (w' : World) : Prop :=
  x = .returned (.tuple #[encVal e, .bool true]) ∧ RQPost r base v n L w w'
theorem evc_tail {w : World} {base n : Nat} {tb cap : Nat} {e : Ev} {L : List Ev} (hn : L.length = n) (h : w.ownsRow base 56 3 (.slice (some ⟨tb, 0, none⟩) (n + 1) cap) (n + 1) (evCells (e :: L))) :
    (cap = 1 → Rd w (.slice (some ⟨tb, 0, none⟩) 0 0) n 3 (evCells L)) ∧ (cap ≠ 1 → Rd w (.slice (some ⟨tb, 3, none⟩) n (cap - 1)) n 3 (evCells L)) := by
  have hrd := Rd.of_own h
  obtain ⟨ao, cp, e1, h1, h2, h3, h4⟩ := hrd
  simp only [Value.slice.injEq, true_and] at e1
  obtain ⟨rfl, rfl⟩ := e1
  obtain ⟨b, off, e2, h5, h6⟩ := h4 (by omega)
  simp only [Option.some.injEq, Addr.mk.injEq, and_true] at e2
  obtain ⟨rfl, rfl⟩ := e2
  have hlen := ev_len L
  refine ⟨fun hc => ?_, fun hc => ?_⟩
  · obtain rfl : n = 0 := by omega
    obtain rfl : L = [] := List.eq_nil_of_length_eq_zero hn
    exact Rd.nil _ _ _ _ (by decide)
  · refine ⟨_, cap - 1, rfl, by omega, by omega, by omega, fun hn0 => ⟨tb, 3, rfl, h5, fun i hi => ?_⟩⟩
    have := h6 (3 + i) (by omega)
    rw [Nat.zero_add] at this
    rw [this, evCells, List.flatMap_cons, List.getElem?_append_right (by simp [encEv])]
    simp [encEv]
set_option maxRecDepth 100000 in
set_option maxHeartbeats 2000000 in
theorem rqtake_some (r base n m : Nat) (v : Value) (e : Ev) (L : List Ev) (hm : L.length = m) (w : World) (hb : base ≤ w.heap.size) (h : RQ w r base v n (e :: L)) :
    Calls Try.prog 49 #[.pointer (some ⟨r, 0, none⟩)] w (RTakeC r base v n e L w) := by
  obtain ⟨i0, hi, hz0, hz1, hz2⟩ := info_parts info56
  have hown := h.own
  rw [List.length_cons, hm] at hown
  obtain ⟨tb, cap, rfl⟩ := own_shape hown (by omega)
  obtain ⟨t1, t2⟩ := evc_tail hm hown
  obtain ⟨sa, sc, he, s1, s2⟩ := (Rd.of_own hown).shape
  simp only [Value.slice.injEq, true_and] at he
  obtain ⟨rfl, rfl⟩ := he
  have hrd := Rd.of_own hown
  obtain ⟨f0, f1, f2⟩ := hrd.ev (i := 0) (e := e) (by omega) rfl
  simp only [Nat.zero_mul, Nat.zero_add] at f0 f1 f2
  have c0 := h.head.cell 0
  have k0 := h.head.frozen 0
  simp only [List.getElem?_cons_zero] at c0
  have hr := h.head.lt
  have hfull := h.full
  have hroom := h.room
  rw [List.length_cons, hm] at hfull
  have htb := hrd.block_lt (by omega)
  have hne := own_ne hown h.head (by decide)
  obtain ⟨ek, ea, eb⟩ := e
  simp only at f0 f1 f2
  have hm0 : ((m : Int) + 1 == 0) = false := by simp; omega
  have hm1 : (1 : Int) ≤ (m : Int) + 1 := by omega
  have hm2 : (m : Int) + 1 ≤ (cap : Int) := by omega
  have hmI : (m : Int) + 1 ≤ 1024 := by omega
  have hm3 : (0 : Int) < (m : Int) + 1 := by omega
  have Hm := Lib.hid hm
  have HH := Lib.hid h
  clear hm h
  obtain ⟨tv, htv, hrt⟩ : ∃ tv, tv = (if cap = 1 then Value.slice (some ⟨tb, 0, none⟩) 0 0 else .slice (some ⟨tb, 3, none⟩) m (cap - 1)) ∧ Rd w tv m 3 (evCells L) := by
    by_cases hc : cap = 1
    · exact ⟨_, rfl, by rw [if_pos hc]; exact t1 hc⟩
    · exact ⟨_, rfl, by rw [if_neg hc]; exact t2 hc⟩
  have Hrt := Lib.hid hrt
  clear t1 t2 hrt
  by_cases hc : cap = 1
  · obtain rfl : m = 0 := by omega
    rw [if_pos hc] at htv
    subst hc
    subst htv
    go_enter Try.func49, Try.ntmps49
    have HB := HH.out.head
    go_wp2_with (at_builtin; refine wpList_append_rd rfl _ _ 53 rfl base 56 i0 (.agg #[.int .i64 0, .int .i64 0, .int .i64 0]) 3 24 Try.underlying53 hi hz0 hz1 hz2 rfl (by decide) _ 0 [] rfl (World.ownsRow_nil _ _ _ _) _ 0 (evCells L) rfl ((Hrt.out.alloc _).alloc _) (ev_one L) (by unfold maxLen; omega) (by omega) (by simp; omega) ?_
                 intro v1 w1 o1 g1 q1
                 obtain ⟨va, vc, rfl, _, _⟩ := (Rd.of_own o1).shape
                 have hd1 := ((HB.alloc (.cells #[.int .i64 0, .int .i64 0, .int .i64 0] 56)).alloc (.cells #[.int .i64 ek, .int .i64 ea, .int .i64 eb] 56)).grown g1 (fun h => by have h0 : (Value.slice none 0 0).ownBlock = some r := h; simp [Value.ownBlock] at h0)
                 have y0 := hd1.cell 0
                 have y1 := hd1.frozen 0
                 have hb1 : Below w.heap.size w w1 := Below.grown (((Below.refl _ w).alloc (Nat.le_refl _) (.cells #[.int .i64 0, .int .i64 0, .int .i64 0] 56)).alloc (by simp) (.cells #[.int .i64 ek, .int .i64 ea, .int .i64 eb] 56)) g1 (by simp; omega) (fun b h => by have h0 : (Value.slice none 0 0).ownBlock = some b := h; simp [Value.ownBlock] at h0)
                 have nb1 : Blk w1 w.heap.size 56 [.int .i64 0, .int .i64 0, .int .i64 0] := ((Blk.new w 56 [_, _, _]).alloc (.cells #[.int .i64 ek, .int .i64 ea, .int .i64 eb] 56)).grown g1 (fun h => by have h0 : (Value.slice none 0 0).ownBlock = some w.heap.size := h; simp [Value.ownBlock] at h0)
                 have nb2 : Blk w1 (w.heap.size + 1) 56 [.int .i64 ek, .int .i64 ea, .int .i64 eb] := (Blk.newAt (w := w.alloc (.cells #[.int .i64 0, .int .i64 0, .int .i64 0] 56)) (by simp) 56 [.int .i64 ek, .int .i64 ea, .int .i64 eb]).grown g1 (fun h => by have h0 : (Value.slice none 0 0).ownBlock = some (w.heap.size + 1) := h; simp [Value.ownBlock] at h0)
                 have z0 := nb2.cell 0
                 have z1 := nb2.cell 1
                 have z2 := nb2.cell 2
                 have a0 := nb1.cell 0
                 have a1 := nb1.cell 1
                 have a2 := nb1.cell 2
                 have b0 := nb1.frozen 0
                 have b1 := nb1.frozen 1
                 have b2 := nb1.frozen 2
                 have hr1 : ¬ w.heap.size = r := by omega
                 have hr2 : ¬ r = w.heap.size := by omega
                 have hr3 : ¬ r = w.heap.size + 1 := by omega
                 have hr4 : ¬ w.heap.size + 1 = r := by omega
                 simp only [List.getElem?_cons_zero, List.getElem?_cons_succ] at y0 z0 z1 z2 a0 a1 a2)
    have nf : Blk ((((w1.setCell ⟨r, 0, none⟩ (.slice va 0 vc)).setCell ⟨w.heap.size, 0, none⟩ (.int .i64 ek)).setCell ⟨w.heap.size, 1, none⟩ (.int .i64 ea)).setCell ⟨w.heap.size, 2, none⟩ (.int .i64 eb)) w.heap.size 56 [.int .i64 ek, .int .i64 ea, .int .i64 eb] := (((nb1.setCell_ne (p := ⟨r, 0, none⟩) hr1 _).set 0 _).set 1 _).set 2 _
    have hf : Blk ((((w1.setCell ⟨r, 0, none⟩ (.slice va 0 vc)).setCell ⟨w.heap.size, 0, none⟩ (.int .i64 ek)).setCell ⟨w.heap.size, 1, none⟩ (.int .i64 ea)).setCell ⟨w.heap.size, 2, none⟩ (.int .i64 eb)) r 113 [.slice va 0 vc, .int .i64 n] := (((hd1.set 0 _).setCell_ne (p := ⟨w.heap.size, 0, none⟩) hr2 _).setCell_ne (p := ⟨w.heap.size, 1, none⟩) hr2 _).setCell_ne (p := ⟨w.heap.size, 2, none⟩) hr2 _
    have of1 := ownsRow_setCell_other (a := ⟨r, 0, none⟩) o1 (own_ne o1 hd1 (by decide)) (.slice va 0 vc)
    have hvb : ∀ j, (Value.slice va (0 + 0) vc).ownBlock = some j → j = w.heap.size + 1 + 1 := fun j hj => by
      rcases q1 with q | q
      · have q0 : (Value.slice va (0 + 0) vc).ownBlock = none := q
        rw [q0] at hj; cases hj
      · rw [q] at hj
        simp at hj
        omega
    have of2 := ownsRow_setCell_other (a := ⟨w.heap.size, 0, none⟩) of1 (fun e => by have h0 : w.heap.size = w.heap.size + 1 + 1 := hvb _ e; omega) (.int .i64 ek)
    have of3 := ownsRow_setCell_other (a := ⟨w.heap.size, 1, none⟩) of2 (fun e => by have h0 : w.heap.size = w.heap.size + 1 + 1 := hvb _ e; omega) (.int .i64 ea)
    have of4 := ownsRow_setCell_other (a := ⟨w.heap.size, 2, none⟩) of3 (fun e => by have h0 : w.heap.size = w.heap.size + 1 + 1 := hvb _ e; omega) (.int .i64 eb)
    have mf : Mod (fun j => Foot r (.slice (some ⟨tb, 0, none⟩) (0 + 1) 1) j) w ((((w1.setCell ⟨r, 0, none⟩ (.slice va 0 vc)).setCell ⟨w.heap.size, 0, none⟩ (.int .i64 ek)).setCell ⟨w.heap.size, 1, none⟩ (.int .i64 ea)).setCell ⟨w.heap.size, 2, none⟩ (.int .i64 eb)) :=
      Mod.setCell (p := ⟨w.heap.size, 2, none⟩) (Mod.setCell (p := ⟨w.heap.size, 1, none⟩) (Mod.setCell (p := ⟨w.heap.size, 0, none⟩) (Mod.setCell (p := ⟨r, 0, none⟩) (below_mod hb1) (fun _ => .inl rfl) _) (fun h => by simp at h) _) (fun h => by simp at h) _) (fun h => by simp at h) _
    generalize (((w1.setCell ⟨r, 0, none⟩ (.slice va 0 vc)).setCell ⟨w.heap.size, 0, none⟩ (.int .i64 ek)).setCell ⟨w.heap.size, 1, none⟩ (.int .i64 ea)).setCell ⟨w.heap.size, 2, none⟩ (.int .i64 eb) = Wf at nf hf of4 mf ⊢
    have u0 := nf.cell 0
    have u1 := nf.cell 1
    have u2 := nf.cell 2
    simp only [List.getElem?_cons_zero, List.getElem?_cons_succ] at u0 u1 u2
    refine bodyPost_ret (v := .tuple #[encVal ⟨ek, ea, eb⟩, .bool true]) (by simp [results, Try.f49, go_sem, encVal, u0, u1, u2]) rfl ⟨rfl, ?_⟩
    refine ⟨_, ⟨hf, ?_, by rw [Hm.out]; omega, hroom⟩, mf, ?_⟩
    · rw [Hm.out]
      simpa using of4
    · rintro j (rfl | e)
      · exact .inl (.inl rfl)
      · have := hvb j (by simpa using e)
        exact .inr (by omega)
  · rw [if_neg hc] at htv
    subst htv
    go_enter Try.func49, Try.ntmps49
    have HB := HH.out.head
    go_wp2_with (at_builtin; refine wpList_append_rd rfl _ _ 53 rfl base 56 i0 (.agg #[.int .i64 0, .int .i64 0, .int .i64 0]) 3 24 Try.underlying53 hi hz0 hz1 hz2 rfl (by decide) _ 0 [] rfl (World.ownsRow_nil _ _ _ _) _ m (evCells L) rfl ((Hrt.out.alloc _).alloc _) (ev_one L) (by unfold maxLen; omega) (by omega) (by simp; omega) ?_
                 intro v1 w1 o1 g1 q1
                 obtain ⟨va, vc, rfl, _, _⟩ := (Rd.of_own o1).shape
                 have hd1 := ((HB.alloc (.cells #[.int .i64 0, .int .i64 0, .int .i64 0] 56)).alloc (.cells #[.int .i64 ek, .int .i64 ea, .int .i64 eb] 56)).grown g1 (fun h => by have h0 : (Value.slice none 0 0).ownBlock = some r := h; simp [Value.ownBlock] at h0)
                 have y0 := hd1.cell 0
                 have y1 := hd1.frozen 0
                 have hb1 : Below w.heap.size w w1 := Below.grown (((Below.refl _ w).alloc (Nat.le_refl _) (.cells #[.int .i64 0, .int .i64 0, .int .i64 0] 56)).alloc (by simp) (.cells #[.int .i64 ek, .int .i64 ea, .int .i64 eb] 56)) g1 (by simp; omega) (fun b h => by have h0 : (Value.slice none 0 0).ownBlock = some b := h; simp [Value.ownBlock] at h0)
                 have nb1 : Blk w1 w.heap.size 56 [.int .i64 0, .int .i64 0, .int .i64 0] := ((Blk.new w 56 [_, _, _]).alloc (.cells #[.int .i64 ek, .int .i64 ea, .int .i64 eb] 56)).grown g1 (fun h => by have h0 : (Value.slice none 0 0).ownBlock = some w.heap.size := h; simp [Value.ownBlock] at h0)
                 have nb2 : Blk w1 (w.heap.size + 1) 56 [.int .i64 ek, .int .i64 ea, .int .i64 eb] := (Blk.newAt (w := w.alloc (.cells #[.int .i64 0, .int .i64 0, .int .i64 0] 56)) (by simp) 56 [.int .i64 ek, .int .i64 ea, .int .i64 eb]).grown g1 (fun h => by have h0 : (Value.slice none 0 0).ownBlock = some (w.heap.size + 1) := h; simp [Value.ownBlock] at h0)
                 have z0 := nb2.cell 0
                 have z1 := nb2.cell 1
                 have z2 := nb2.cell 2
                 have a0 := nb1.cell 0
                 have a1 := nb1.cell 1
                 have a2 := nb1.cell 2
                 have b0 := nb1.frozen 0
                 have b1 := nb1.frozen 1
                 have b2 := nb1.frozen 2
                 have hr1 : ¬ w.heap.size = r := by omega
                 have hr2 : ¬ r = w.heap.size := by omega
                 have hr3 : ¬ r = w.heap.size + 1 := by omega
                 have hr4 : ¬ w.heap.size + 1 = r := by omega
                 simp only [List.getElem?_cons_zero, List.getElem?_cons_succ] at y0 z0 z1 z2 a0 a1 a2)
    have nf : Blk ((((w1.setCell ⟨r, 0, none⟩ (.slice va m vc)).setCell ⟨w.heap.size, 0, none⟩ (.int .i64 ek)).setCell ⟨w.heap.size, 1, none⟩ (.int .i64 ea)).setCell ⟨w.heap.size, 2, none⟩ (.int .i64 eb)) w.heap.size 56 [.int .i64 ek, .int .i64 ea, .int .i64 eb] := (((nb1.setCell_ne (p := ⟨r, 0, none⟩) hr1 _).set 0 _).set 1 _).set 2 _
    have hf : Blk ((((w1.setCell ⟨r, 0, none⟩ (.slice va m vc)).setCell ⟨w.heap.size, 0, none⟩ (.int .i64 ek)).setCell ⟨w.heap.size, 1, none⟩ (.int .i64 ea)).setCell ⟨w.heap.size, 2, none⟩ (.int .i64 eb)) r 113 [.slice va m vc, .int .i64 n] := (((hd1.set 0 _).setCell_ne (p := ⟨w.heap.size, 0, none⟩) hr2 _).setCell_ne (p := ⟨w.heap.size, 1, none⟩) hr2 _).setCell_ne (p := ⟨w.heap.size, 2, none⟩) hr2 _
    have of1 := ownsRow_setCell_other (a := ⟨r, 0, none⟩) o1 (own_ne o1 hd1 (by decide)) (.slice va m vc)
    have hvb : ∀ j, (Value.slice va (0 + m) vc).ownBlock = some j → j = w.heap.size + 1 + 1 := fun j hj => by
      rcases q1 with q | q
      · have q0 : (Value.slice va (0 + m) vc).ownBlock = none := q
        rw [q0] at hj; cases hj
      · rw [q] at hj
        simp at hj
        omega
    have of2 := ownsRow_setCell_other (a := ⟨w.heap.size, 0, none⟩) of1 (fun e => by have h0 : w.heap.size = w.heap.size + 1 + 1 := hvb _ e; omega) (.int .i64 ek)
    have of3 := ownsRow_setCell_other (a := ⟨w.heap.size, 1, none⟩) of2 (fun e => by have h0 : w.heap.size = w.heap.size + 1 + 1 := hvb _ e; omega) (.int .i64 ea)
    have of4 := ownsRow_setCell_other (a := ⟨w.heap.size, 2, none⟩) of3 (fun e => by have h0 : w.heap.size = w.heap.size + 1 + 1 := hvb _ e; omega) (.int .i64 eb)
    have mf : Mod (fun j => Foot r (.slice (some ⟨tb, 0, none⟩) (m + 1) cap) j) w ((((w1.setCell ⟨r, 0, none⟩ (.slice va m vc)).setCell ⟨w.heap.size, 0, none⟩ (.int .i64 ek)).setCell ⟨w.heap.size, 1, none⟩ (.int .i64 ea)).setCell ⟨w.heap.size, 2, none⟩ (.int .i64 eb)) :=
      Mod.setCell (p := ⟨w.heap.size, 2, none⟩) (Mod.setCell (p := ⟨w.heap.size, 1, none⟩) (Mod.setCell (p := ⟨w.heap.size, 0, none⟩) (Mod.setCell (p := ⟨r, 0, none⟩) (below_mod hb1) (fun _ => .inl rfl) _) (fun h => by simp at h) _) (fun h => by simp at h) _) (fun h => by simp at h) _
    generalize (((w1.setCell ⟨r, 0, none⟩ (.slice va m vc)).setCell ⟨w.heap.size, 0, none⟩ (.int .i64 ek)).setCell ⟨w.heap.size, 1, none⟩ (.int .i64 ea)).setCell ⟨w.heap.size, 2, none⟩ (.int .i64 eb) = Wf at nf hf of4 mf ⊢
    have u0 := nf.cell 0
    have u1 := nf.cell 1
    have u2 := nf.cell 2
    simp only [List.getElem?_cons_zero, List.getElem?_cons_succ] at u0 u1 u2
    refine bodyPost_ret (v := .tuple #[encVal ⟨ek, ea, eb⟩, .bool true]) (by simp [results, Try.f49, go_sem, encVal, u0, u1, u2]) rfl ⟨rfl, ?_⟩
    refine ⟨_, ⟨hf, ?_, by rw [Hm.out]; omega, hroom⟩, mf, ?_⟩
    · rw [Hm.out]
      simpa using of4
    · rintro j (rfl | e)
      · exact .inl (.inl rfl)
      · have := hvb j (by simpa using e)
        exact .inr (by omega)
end Go.Proofs.Ytlcmjpligaiadaa
