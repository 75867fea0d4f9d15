/- Contacts: the directions that may tell two apart, gone through. -/
import Derived.Test.YtpbpdgknjbjlcaaCz
import Derived.Sort.LoopGhostIn
import Derived.Sort.CutIn
import Derived.Stop.RegionWithIn
namespace Go.Proofs.Ytpbpdgknjbjlcaa
open Go.RowKit
attribute [local go_sem] Oper.semAt_some
set_option maxRecDepth 100000 in
set_option maxHeartbeats 4000000 in
theorem ways_seq (n : Nat) (hn1 : 1 ≤ n) (ba bb : Nat) (a b : Cor) (bs : List Nat) (pva ava eva pvb avb evb : Value) (w : World) (ha : Cat w ba a bs pva ava eva) (hb : Cat w bb b bs pvb avb evb) (hbs : ∀ k ∈ bs, k < w.heap.size) (hma : mayB a = true) (hmb : mayB b = true) :
    SeqP Fence.wide n Try.prog 47 #[.pointer (some ⟨ba, 0, none⟩), .pointer (some ⟨bb, 0, none⟩)] (fun p : Pt => #[ptV p]) pvP (KeepB bs) (waysP a b) w := by
  intro l J Jx W hW hJ hJx hY h0
  have hbsW : ∀ k ∈ bs, k < W.heap.size := fun k hk => Nat.lt_of_lt_of_le (hbs k hk) hW.size
  have hK0 : KeepB bs W W := fun _ _ => rfl
  have haW := ha.below hW
  have hbW := hb.below hW
  have hstep : ∀ (done : List Pt) (w1 w2 : World), J done w1 → Below w1.heap.size w1 w2 → J done w2 := fun done w1 w2 h hB => hJ _ _ _ none h ⟨hB.os, hB.tape, hB.output, hB.size, fun k hk _ => hB.block k hk⟩ (fun r e => by cases e)
  have hYb : ∀ (done : List Pt) (x : Pt) (w1 : World), J done w1 → (∃ post, waysP a b = done ++ x :: post) → YieldAt Fence.wide (n - 1) Try.prog l #[ptV x] w1 fun e W' => ∃ b', e = .returned (.bool b') ∧ ((b' = true ∧ J (done ++ [x]) W' ∧ KeepB bs w1 W' ∧ KeepP pvP w1 W') ∨ (b' = false ∧ Jx (done ++ [x]) W')) := fun done x w1 h hp =>
    (hY done x w1 h hp).mono (fun e W' h => by rcases h with ⟨rfl, h⟩ | ⟨rfl, h⟩; exact ⟨true, rfl, .inl ⟨rfl, h⟩⟩; exact ⟨false, rfl, .inr ⟨rfl, h⟩⟩)
  have FA := may_facts hma
  have FB := may_facts hmb
  have HY := Lib.hid hYb
  have HS := Lib.hid hstep
  have HA := Lib.hid haW
  have HB := Lib.hid hbW
  have Hbs := Lib.hid hbsW
  have hbxa : ∀ wr, KeepB bs W wr → _ := fun wr hk => haW.keep hk
  have hbxb : ∀ wr, KeepB bs W wr → _ := fun wr hk => hbW.keep hk
  have HAk := Lib.hid hbxa
  have HBk := Lib.hid hbxb
  clear hY hJ hJx hYb hstep haW hbW ha hb hW hbs hbxa hbxb
  obtain ⟨w, rfl⟩ : ∃ w : World, w = W := ⟨_, rfl⟩
  refine callsIn_of_wp Try.func47 rfl trivial ?_ rfl
  simp only [Try.ntmps47, List.size_toArray, List.length_cons, List.length_nil, Nat.reduceAdd, Nat.reduceSub, Array.replicate_succ, Array.replicate_zero, List.push_toArray, List.append_toArray, List.nil_append, List.cons_append]
  gi_wp2
  refine wpIn_scope ?_
  gi_wp2
  refine wpIn_label ?_
  gi_wp2
  gi_loopg [] 0 (fun _ wx => wx = w)
  case atStart => rfl
  case round =>
    subst hrel
    obtain ⟨W0, hW0⟩ : ∃ W0 : World, W0 = wr := ⟨_, rfl⟩
    subst hW0
    obtain ⟨aa, ac, rfl, a1, a2⟩ := HA.out.a.shape
    obtain ⟨ba', bc, rfl, b1, b2⟩ := HB.out.a.shape
    have k1 : _ = some (Value.slice aa a.A.length ac) := HA.out.box.cell 1
    have k2 : _ = some (Value.slice ba' b.A.length bc) := HB.out.box.cell 1
    obtain ⟨ae, aec, rfl, e1, e2⟩ := HA.out.e.shape
    obtain ⟨be, bec, rfl, e3, e4⟩ := HB.out.e.shape
    obtain ⟨ap, apc, rfl, e5, e6⟩ := HA.out.p.shape
    obtain ⟨bp, bpc, rfl, e7, e8⟩ := HB.out.p.shape
    have hB0 : Below W0.heap.size W0 (W0.alloc (.cells #[.slice aa a.A.length ac, .slice ba' b.A.length bc] 22)) := (Below.refl _ W0).alloc (Nat.le_refl _) _
    gi_wp2
    refine ⟨trivial, ?_⟩
    refine (callsIn_wide.2 (concat48_any W0.heap.size (.slice aa a.A.length ac) (.slice ba' b.A.length bc) a.A.length b.A.length a.A b.A _ (Blk.new W0 22 [.slice aa a.A.length ac, .slice ba' b.A.length bc]) (HA.out.a.alloc _) (HB.out.a.alloc _) rfl rfl (by have := FA.a1; omega) (by have := FB.a1; omega))).mono ?_
    rintro e w2 ⟨⟨v, rfl, hown⟩, hB2⟩
    have hB02 : Below W0.heap.size W0 w2 := hB0.trans (hB2.mono hB0.size)
    have hown0 := own_base (base' := 0) hown (Nat.zero_le _)
    obtain ⟨N, hN⟩ : ∃ N, N = a.A.length + b.A.length := ⟨_, rfl⟩
    rw [← hN] at hown0
    have hN2 : N ≤ 256 := by have := FA.a1; have := FB.a1; omega
    obtain ⟨L, hL⟩ : ∃ L, L = a.A ++ b.A := ⟨_, rfl⟩
    rw [← hL] at hown0
    have hLN : L.length = N := by rw [hL, List.length_append, hN]
    obtain ⟨vo, vc, rfl, v1, v2⟩ := (Rd.of_own hown0).shape
    have HL := Lib.hid hL
    have HLN := Lib.hid hLN
    have HW1 : Hid (∀ k, waysP a b = L.take k ++ (L.drop k ++ (crossesL a.E b.E ++ restL a b))) := Lib.hid fun k => by
      rw [← List.append_assoc, List.take_append_drop, hL]
      rfl
    have HN := Lib.hid hN
    clear hN
    have hJ0 := HS.out [] W0 w2 h0 hB02
    have hK2 := hK0.step hbsW hB02
    clear k1 k2 hB0 hB2 hown hL hLN hB02 a1 a2 b1 b2
    gi_wp2
    gi_loopg [5, 25] N (fun g _ i wx => ∃ k : Nat, g = N - k ∧ k ≤ N ∧ i = .int .i64 (k : Int) ∧ J (L.take k) wx ∧ KeepB bs W0 wx ∧ wx.ownsRow 0 26 3 (.slice vo N vc) N (ptCells L))
    case atStart => exact ⟨0, rfl, Nat.zero_le _, rfl, hJ0, hK2, hown0⟩
    case round =>
      clear hJ0 hK2 hown0
      obtain ⟨k, hg, hk, rfl, hJ, hK, hown⟩ := hrel
      have Hg := Lib.hid hg
      clear hg
      by_cases hkN : k < N
      · obtain ⟨x, hx⟩ : ∃ x, L[k]? = some x := ⟨_, List.getElem?_eq_getElem (by rw [HLN.out]; exact hkN)⟩
        obtain ⟨g, gc, e0⟩ := own_addr hown (by omega)
        obtain ⟨rfl, rfl⟩ : vo = some ⟨g, 0, none⟩ ∧ vc = gc := by cases e0; exact ⟨rfl, rfl⟩
        obtain ⟨p0, p1, p2⟩ := (Rd.of_own hown).pt hkN hx
        rw [Nat.zero_add] at p0 p1 p2
        have hkI : (k : Int) < (N : Int) := by omega
        have hB3 : Below wr.heap.size wr (wr.alloc (.cells #[.int .i64 x.x, .int .i64 x.y, .int .i64 x.z] 26)) := (Below.refl _ wr).alloc (Nat.le_refl _) _
        have hJ3 := HS.out _ wr _ hJ hB3
        have hK3 := hK.step hbsW hB3
        have hown3 := own_new hown hB3
        have htk : L.take (k + 1) = L.take k ++ [x] := by rw [List.take_add_one, hx]; rfl
        obtain ⟨fn, tmps, assign, body, hy, hR⟩ := HY.out (L.take k) x _ hJ3 ⟨L.drop (k + 1) ++ (crossesL a.E b.E ++ restL a b), by rw [HW1.out k, drop_cons hx]; rfl⟩
        have HHx := Lib.hid hx
        have HHt := Lib.hid htk
        have HJ3 := Lib.hid hJ3
        have HK3 := Lib.hid hK3
        have HO3 := Lib.hid hown3
        clear hx htk hJ3 hK3 hown3 hJ hK hown e0 hB3
        gi_wp2
        refine hR.mono ?_
        rintro e W3 ⟨b', rfl, hb'⟩
        rcases hb' with ⟨rfl, hJ4, hk4, hp4⟩ | ⟨rfl, hJx4⟩
        · gi_wp2
          go_roundg (N - (k + 1))
          case rel => exact ⟨k + 1, rfl, by omega, by go_num, by rw [HHt.out]; exact hJ4, HK3.out.trans hk4, own_keepP HO3.out hp4⟩
          case measure => have := Hg.out; omega
        · gi_wp2
          rw [Exit.noGoto_normal]
          refine bodyPost_end (results_none rfl _ _ _) rfl ?_
          exact ⟨⟨_, rfl⟩, .inr ⟨_, ⟨L.drop (k + 1) ++ (crossesL a.E b.E ++ restL a b), by rw [HW1.out k, drop_cons HHx.out]; simp⟩, hJx4⟩⟩
      · obtain rfl : k = N := by omega
        have hall : L.take k = L := by rw [← HLN.out, List.take_length]
        rw [hall] at hJ
        have hJc : J (L ++ crossesL (a.E.take 0) b.E) wr := by simpa [crossesL] using hJ
        obtain ⟨w3, hw3⟩ : ∃ w3 : World, w3 = wr := ⟨_, rfl⟩
        subst hw3
        have k3 : _ = some (Value.slice ae a.E.length aec) := (HAk.out w3 hK).box.cell 2
        have hWL : waysP a b = L ++ (crossesL a.E b.E ++ restL a b) := by have := HW1.out 0; simpa using this
        have HWL := Lib.hid hWL
        obtain ⟨NE, hNE⟩ : ∃ NE, NE = a.E.length := ⟨_, rfl⟩
        obtain ⟨NF, hNF⟩ : ∃ NF, NF = b.E.length := ⟨_, rfl⟩
        rw [← hNE] at k3 e1
        have HNE := Lib.hid hNE
        have HNF := Lib.hid hNF
        have hNE2 : NE ≤ 128 := by rw [hNE]; exact FA.e1
        have hNF2 : NF ≤ 128 := by rw [hNF]; exact FB.e1
        clear hJ hall hown Hg hWL hNE hNF HW1
        gi_wp2
        gi_loopg [7, 9, 37] NE (fun g _ _ i wx => ∃ k : Nat, g = NE - k ∧ k ≤ NE ∧ i = .int .i64 (k : Int) ∧ J (L ++ crossesL (a.E.take k) b.E) wx ∧ KeepB bs W0 wx)
        case atStart => exact ⟨0, rfl, Nat.zero_le _, rfl, hJc, hK⟩
        case round =>
          clear hJc hK k3
          obtain ⟨k, hg, hk, rfl, hJ, hK⟩ := hrel
          have Hg := Lib.hid hg
          clear hg
          by_cases hkN : k < NE
          · obtain ⟨x, hx⟩ : ∃ x, a.E[k]? = some x := ⟨_, List.getElem?_eq_getElem (by rw [← HNE.out]; exact hkN)⟩
            have hxn := FA.ne x (List.mem_of_getElem? hx)
            have cA := (HAk.out wr hK)
            obtain ⟨ge, goff, he0⟩ := (show Rd wr (.slice ae a.E.length aec) a.E.length 3 (ptCells a.E) from cA.e).addr (by rw [← HNE.out]; omega)
            subst he0
            obtain ⟨p0, p1, p2⟩ := cA.e.pt (by rw [← HNE.out]; exact hkN) hx
            have hkI : (k : Int) < (NE : Int) := by omega
            have hB3 : Below wr.heap.size wr (wr.alloc (.cells #[.int .i64 x.x, .int .i64 x.y, .int .i64 x.z] 26)) := (Below.refl _ wr).alloc (Nat.le_refl _) _
            have hJ3 := HS.out _ wr _ hJ hB3
            have hK3 := hK.step hbsW hB3
            have hz7 := Blk.new wr 26 x.cells
            have k4 : wr.cell? ⟨bb, 2, none⟩ = some (Value.slice be b.E.length bec) := (HBk.out wr hK).box.cell 2
            have lbb := (HBk.out wr hK).box.lt
            rw [← HNF.out] at k4
            obtain ⟨z7, hz7e⟩ : ∃ z, z = wr.heap.size := ⟨_, rfl⟩
            have HHx := Lib.hid hx
            have Hxn := Lib.hid hxn
            have HJ3 := Lib.hid (show J ((L ++ crossesL (a.E.take k) b.E) ++ (b.E.take 0).map (crossP x)) (wr.alloc (.cells #[.int .i64 x.x, .int .i64 x.y, .int .i64 x.z] 26)) by simpa using hJ3)
            have HK3 := Lib.hid hK3
            have HZ7 := Lib.hid (show Blk (wr.alloc (.cells #[.int .i64 x.x, .int .i64 x.y, .int .i64 x.z] 26)) z7 26 x.cells by rw [hz7e]; exact hz7)
            have Hz7e := Lib.hid hz7e
            clear hx hxn cA hJ3 hK3 hJ hK hz7 hB3
            gi_wp2
            rw [← Hz7e.out]
            clear k4 lbb p0 p1 p2 hz7e
            gi_loopg [9, 44] NF (fun g _ j wx => ∃ m : Nat, g = NF - m ∧ m ≤ NF ∧ j = .int .i64 (m : Int) ∧ J ((L ++ crossesL (a.E.take k) b.E) ++ (b.E.take m).map (crossP x)) wx ∧ KeepB bs W0 wx ∧ Blk wx z7 26 x.cells)
            case atStart => exact ⟨0, rfl, Nat.zero_le _, rfl, HJ3.out, HK3.out, HZ7.out⟩
            case round =>
              clear HJ3 HK3 HZ7
              obtain ⟨m, hg2, hm, rfl, hJ, hK, hz7⟩ := hrel
              have Hg2 := Lib.hid hg2
              clear hg2
              by_cases hmN : m < NF
              · obtain ⟨y, hy0⟩ : ∃ y, b.E[m]? = some y := ⟨_, List.getElem?_eq_getElem (by rw [← HNF.out]; exact hmN)⟩
                have hyn := FB.ne y (List.mem_of_getElem? hy0)
                have cB := (HBk.out wr hK)
                obtain ⟨gf, gfo, hf0⟩ := (show Rd wr (.slice be b.E.length bec) b.E.length 3 (ptCells b.E) from cB.e).addr (by rw [← HNF.out]; omega)
                subst hf0
                obtain ⟨q0, q1, q2⟩ := cB.e.pt (by rw [← HNF.out]; exact hmN) hy0
                have hmI : (m : Int) < (NF : Int) := by omega
                have hB3 : Below wr.heap.size wr (wr.alloc (.cells #[.int .i64 y.x, .int .i64 y.y, .int .i64 y.z] 26)) := (Below.refl _ wr).alloc (Nat.le_refl _) _
                have l7 := hz7.lt
                have s0 : _ = some (Value.int .i64 x.x) := hz7.cell 0
                have s1 : _ = some (Value.int .i64 x.y) := hz7.cell 1
                have s2 : _ = some (Value.int .i64 x.z) := hz7.cell 2
                have HJ := Lib.hid hJ
                have HK := Lib.hid hK
                have HZ7 := Lib.hid hz7
                have Hyn := Lib.hid hyn
                have HHy := Lib.hid hy0
                clear hJ hK hz7 hyn hy0 cB
                gi_wp2
                refine ⟨trivial, ?_⟩
                refine (callsIn_wide.2 (cross49_any x y _ Hxn.out Hyn.out)).mono ?_
                rintro e w5 ⟨rfl, hB5⟩
                have hB35 := hB3.trans (hB5.mono hB3.size)
                have hJ5 := HS.out _ wr w5 HJ.out hB35
                have HK5 := Lib.hid (HK.out.step hbsW hB35)
                have HZ5 := Lib.hid (HZ7.out.below hB35 HZ7.out.lt)
                obtain ⟨fn, tmps, assign, body, hy, hR⟩ := HY.out _ (crossP x y) w5 hJ5 ⟨(b.E.drop (m + 1)).map (crossP x) ++ (crossesL (a.E.drop (k + 1)) b.E ++ restL a b), by rw [HWL.out, crosses_split HHx.out, map_split (crossP x) HHy.out]; simp only [List.append_assoc, List.cons_append]⟩
                clear hJ5 hB5 hB35 hB3 HJ HK HZ7 q0 q1 q2 s0 s1 s2
                gi_wp2
                refine hR.mono ?_
                rintro e W3 ⟨b', rfl, hb'⟩
                rcases hb' with ⟨rfl, hJ4, hk4, hp4⟩ | ⟨rfl, hJx4⟩
                · gi_wp2
                  go_roundg (NF - (m + 1))
                  case rel => exact ⟨m + 1, rfl, by omega, by go_num, by rw [map_snoc (crossP x) HHy.out, ← List.append_assoc]; exact hJ4, HK5.out.trans hk4, blk_keepP HZ5.out hp4⟩
                  case measure => have := Hg2.out; omega
                · gi_wp2
                  rw [Exit.noGoto_normal]
                  refine bodyPost_end (results_none rfl _ _ _) rfl ?_
                  exact ⟨⟨_, rfl⟩, .inr ⟨_, ⟨(b.E.drop (m + 1)).map (crossP x) ++ (crossesL (a.E.drop (k + 1)) b.E ++ restL a b), by rw [HWL.out, crosses_split HHx.out, map_split (crossP x) HHy.out]; simp only [List.append_assoc, List.cons_append, List.nil_append]⟩, hJx4⟩⟩
              · obtain rfl : m = NF := by omega
                have hall : b.E.take m = b.E := by rw [HNF.out, List.take_length]
                rw [hall, List.append_assoc, ← crosses_snoc HHx.out] at hJ
                clear hall hz7
                gi_wp2
                go_roundg (NE - (k + 1))
                case rel => exact ⟨k + 1, rfl, by omega, by go_num, hJ, hK⟩
                case measure => have := Hg.out; omega
          · obtain rfl : k = NE := by omega
            have hall : a.E.take k = a.E := by rw [HNE.out, List.take_length]
            rw [hall] at hJ
            obtain ⟨w4, hw4⟩ : ∃ w4 : World, w4 = wr := ⟨_, rfl⟩
            subst hw4
            have k3 : _ = some (Value.slice ap a.P.length apc) := (HAk.out w4 hK).box.cell 0
            have k4 : _ = some (Value.slice bp b.P.length bpc) := (HBk.out w4 hK).box.cell 0
            have k5 : _ = some (Value.slice ae a.E.length aec) := (HAk.out w4 hK).box.cell 2
            have k6 : _ = some (Value.slice be b.E.length bec) := (HBk.out w4 hK).box.cell 2
            clear hall Hg
            by_cases hmin : min a.P.length b.P.length > 2
            · have hr : restL a b = [] := by unfold restL; rw [if_pos hmin]
              have hfin : waysP a b = L ++ crossesL a.E b.E := by rw [HWL.out, hr, List.append_nil]
              have Hfin := Lib.hid hfin
              clear hr hfin
              gi_wp2
              all_goals
                first
                  | (exfalso; omega)
                  | (rw [Exit.noGoto_normal]
                     refine bodyPost_end (results_none rfl _ _ _) rfl ?_
                     exact ⟨⟨_, rfl⟩, .inl (by rw [Hfin.out]; exact hJ)⟩)
            · obtain ⟨NP, hNP⟩ : ∃ NP, NP = a.P.length := ⟨_, rfl⟩
              obtain ⟨NQ, hNQ⟩ : ∃ NQ, NQ = b.P.length := ⟨_, rfl⟩
              have hr : restL a b = pairsL a.P b.P (a.E ++ b.E) := by unfold restL; rw [if_neg hmin]
              have hfin : waysP a b = (L ++ crossesL a.E b.E) ++ pairsL a.P b.P (a.E ++ b.E) := by rw [HWL.out, hr, List.append_assoc]
              have HWP := Lib.hid hfin
              have hminI : min (a.P.length : Int) (b.P.length : Int) ≤ 2 := by omega
              have hB0 : Below w4.heap.size w4 (w4.alloc (.cells #[.slice ae a.E.length aec, .slice be b.E.length bec] 22)) := (Below.refl _ w4).alloc (Nat.le_refl _) _
              have l1 := (HAk.out w4 hK).box.lt
              have l2 := (HBk.out w4 hK).box.lt
              clear hr hfin
              gi_wp2
              all_goals (try (exfalso; omega))
              have cA := HAk.out w4 hK
              have cB := HBk.out w4 hK
              have HP0 := Lib.hid hNP
              have HQ0 := Lib.hid hNQ
              clear hNP hNQ
              refine ⟨trivial, ?_⟩
              refine (callsIn_wide.2 (concat48_any w4.heap.size (.slice ae a.E.length aec) (.slice be b.E.length bec) a.E.length b.E.length a.E b.E _ (Blk.new w4 22 [.slice ae a.E.length aec, .slice be b.E.length bec]) (cA.e.alloc _) (cB.e.alloc _) rfl rfl (by have := FA.e1; omega) (by have := FB.e1; omega))).mono ?_
              rintro e w5 ⟨⟨v, rfl, hown⟩, hB5⟩
              have hB05 : Below w4.heap.size w4 w5 := hB0.trans (hB5.mono hB0.size)
              have hown0 := own_base (base' := 0) hown (Nat.zero_le _)
              obtain ⟨ND, hND⟩ : ∃ ND, ND = a.E.length + b.E.length := ⟨_, rfl⟩
              rw [← hND] at hown0
              have hND2 : ND ≤ 256 := by have := FA.e1; have := FB.e1; omega
              obtain ⟨D, hD⟩ : ∃ D, D = a.E ++ b.E := ⟨_, rfl⟩
              rw [← hD] at hown0
              have hDN : D.length = ND := by rw [hD, List.length_append, hND]
              have hDn : ∀ p ∈ D, Near 1048576 p := by
                intro p hp
                rw [hD] at hp
                rcases List.mem_append.1 hp with h | h
                · exact FA.ne p h
                · exact FB.ne p h
              obtain ⟨vd, vdc, rfl, y1, y2⟩ := (Rd.of_own hown0).shape
              have HDN := Lib.hid hDN
              have HDn := Lib.hid hDn
              have HWD := HWP.out
              rw [← hD] at HWD
              have HWD := Lib.hid HWD
              have hJ5 := HS.out _ w4 w5 hJ hB05
              have hK5 := hK.step hbsW hB05
              have HND := Lib.hid hND
              have k7 : _ = some (Value.slice ap a.P.length apc) := (HAk.out w5 hK5).box.cell 0
              rw [← HP0.out] at k7
              have e5' : NP ≤ apc := by rw [HP0.out]; exact e5
              have hNP2 : NP ≤ 32 := by rw [HP0.out]; exact FA.p1
              have hNQ2 : NQ ≤ 32 := by rw [HQ0.out]; exact FB.p1
              have e7' : NQ ≤ bpc := by rw [HQ0.out]; exact e7
              have hJc : J ((L ++ crossesL a.E b.E) ++ pairsL (a.P.take 0) b.P D) w5 := by simpa [pairsL] using hJ5
              clear k3 k4 k5 k6 hB0 l1 l2 hJ hK hown hB5 hB05 hND hD hDN hDn cA cB hJ5 HWP hmin hminI
              gi_wp2
              gi_loopg [12, 14, 15, 17, 73] NP (fun g _ _ _ _ i wx => ∃ k : Nat, g = NP - k ∧ k ≤ NP ∧ i = .int .i64 (k : Int) ∧ J ((L ++ crossesL a.E b.E) ++ pairsL (a.P.take k) b.P D) wx ∧ KeepB bs W0 wx ∧ wx.ownsRow 0 26 3 (.slice vd ND vdc) ND (ptCells D))
              case atStart => exact ⟨0, rfl, Nat.zero_le _, rfl, hJc, hK5, hown0⟩
              case round =>
                clear hJc hK5 hown0 k7
                obtain ⟨k, hg, hk, rfl, hJ, hK, hown⟩ := hrel
                have Hg := Lib.hid hg
                clear hg
                by_cases hkN : k < NP
                · obtain ⟨x, hx⟩ : ∃ x, a.P[k]? = some x := ⟨_, List.getElem?_eq_getElem (by rw [← HP0.out]; exact hkN)⟩
                  have hxn := FA.np x (List.mem_of_getElem? hx)
                  have cA := (HAk.out wr hK)
                  obtain ⟨ge, goff, he0⟩ := (show Rd wr (.slice ap a.P.length apc) a.P.length 3 (ptCells a.P) from cA.p).addr (by rw [← HP0.out]; omega)
                  subst he0
                  obtain ⟨p0, p1, p2⟩ := cA.p.pt (by rw [← HP0.out]; exact hkN) hx
                  have hkI : (k : Int) < (NP : Int) := by omega
                  have hB3 : Below wr.heap.size wr (wr.alloc (.cells #[.int .i64 x.x, .int .i64 x.y, .int .i64 x.z] 26)) := (Below.refl _ wr).alloc (Nat.le_refl _) _
                  have hJ3 := HS.out _ wr _ hJ hB3
                  have hK3 := hK.step hbsW hB3
                  have hz7 := Blk.new wr 26 x.cells
                  have k4 : wr.cell? ⟨bb, 0, none⟩ = some (Value.slice bp b.P.length bpc) := (HBk.out wr hK).box.cell 0
                  have lbb := (HBk.out wr hK).box.lt
                  rw [← HQ0.out] at k4
                  obtain ⟨z7, hz7e⟩ : ∃ z, z = wr.heap.size := ⟨_, rfl⟩
                  have HHx := Lib.hid hx
                  have Hxn := Lib.hid hxn
                  have HJ3 := Lib.hid (show J (((L ++ crossesL a.E b.E) ++ pairsL (a.P.take k) b.P D) ++ (b.P.take 0).flatMap (pairRow D x)) (wr.alloc (.cells #[.int .i64 x.x, .int .i64 x.y, .int .i64 x.z] 26)) by simpa using hJ3)
                  have HK3 := Lib.hid hK3
                  have HZ7 := Lib.hid (show Blk (wr.alloc (.cells #[.int .i64 x.x, .int .i64 x.y, .int .i64 x.z] 26)) z7 26 x.cells by rw [hz7e]; exact hz7)
                  have Hz7e := Lib.hid hz7e
                  have HO3 := Lib.hid (own_new hown hB3)
                  clear hx hxn cA hJ3 hK3 hJ hK hz7 hB3 hown
                  gi_wp2
                  rw [← Hz7e.out]
                  clear k4 lbb p0 p1 p2 hz7e
                  gi_loopg [14, 15, 17, 80] NQ (fun g _ _ _ j wx => ∃ m : Nat, g = NQ - m ∧ m ≤ NQ ∧ j = .int .i64 (m : Int) ∧ J (((L ++ crossesL a.E b.E) ++ pairsL (a.P.take k) b.P D) ++ (b.P.take m).flatMap (pairRow D x)) wx ∧ KeepB bs W0 wx ∧ Blk wx z7 26 x.cells ∧ wx.ownsRow 0 26 3 (.slice vd ND vdc) ND (ptCells D))
                  case atStart => exact ⟨0, rfl, Nat.zero_le _, rfl, HJ3.out, HK3.out, HZ7.out, HO3.out⟩
                  case round =>
                    clear HJ3 HK3 HZ7 HO3
                    obtain ⟨m, hg2, hm, rfl, hJ, hK, hz7, hown⟩ := hrel
                    have Hg2 := Lib.hid hg2
                    clear hg2
                    by_cases hmN : m < NQ
                    · obtain ⟨y, hy0⟩ : ∃ y, b.P[m]? = some y := ⟨_, List.getElem?_eq_getElem (by rw [← HQ0.out]; exact hmN)⟩
                      have hyn := FB.np y (List.mem_of_getElem? hy0)
                      have cB := (HBk.out wr hK)
                      obtain ⟨gf, gfo, hf0⟩ := (show Rd wr (.slice bp b.P.length bpc) b.P.length 3 (ptCells b.P) from cB.p).addr (by rw [← HQ0.out]; omega)
                      subst hf0
                      obtain ⟨q0, q1, q2⟩ := cB.p.pt (by rw [← HQ0.out]; exact hmN) hy0
                      have hmI : (m : Int) < (NQ : Int) := by omega
                      have hB3 : Below wr.heap.size wr (wr.alloc (.cells #[.int .i64 y.x, .int .i64 y.y, .int .i64 y.z] 26)) := (Below.refl _ wr).alloc (Nat.le_refl _) _
                      have l7 := hz7.lt
                      have s0 : _ = some (Value.int .i64 x.x) := hz7.cell 0
                      have s1 : _ = some (Value.int .i64 x.y) := hz7.cell 1
                      have s2 : _ = some (Value.int .i64 x.z) := hz7.cell 2
                      have HJ := Lib.hid hJ
                      have HK := Lib.hid hK
                      have HZ7 := Lib.hid hz7
                      have Hyn := Lib.hid hyn
                      have HHy := Lib.hid hy0
                      have Hown := Lib.hid hown
                      clear hJ hK hz7 hyn hy0 cB hown
                      gi_wp2
                      refine ⟨trivial, ?_⟩
                      refine (callsIn_wide.2 (minus32_any y x _ (near_mono Hyn.out (by decide)) (near_mono Hxn.out (by decide)))).mono ?_
                      rintro e w5 ⟨rfl, hB5⟩
                      have hB35 := hB3.trans (hB5.mono hB3.size)
                      clear q0 q1 q2 s0 s1 s2
                      gi_wp2
                      refine ⟨trivial, ?_⟩
                      refine (callsIn_wide.2 (short50_any (subP y x) w5)).mono ?_
                      rintro e w6 ⟨rfl, hB6⟩
                      obtain ⟨d, hd⟩ : ∃ d, d = shortP (subP y x) := ⟨_, rfl⟩
                      rw [← hd]
                      have hdn : Near 1048576 d := by rw [hd]; exact short_near _
                      have hrow : pairRow D x y = d :: D.map (fun e => crossP (shortP (crossP e d)) e) := by rw [hd]; rfl
                      have Hrow := Lib.hid hrow
                      have Hdn := Lib.hid hdn
                      have hB36 := hB35.trans (hB6.mono hB35.size)
                      have hB37 : Below wr.heap.size wr (w6.alloc (.cells #[.int .i64 d.x, .int .i64 d.y, .int .i64 d.z] 26)) := hB36.alloc hB36.size _
                      have hJ7 := HS.out _ wr _ HJ.out hB37
                      have HK7 := Lib.hid (HK.out.step hbsW hB37)
                      have HZ7' := Lib.hid (HZ7.out.below hB37 HZ7.out.lt)
                      have HO7 := Lib.hid (own_new Hown.out hB37)
                      obtain ⟨z8, hz8e⟩ : ∃ z, z = w6.heap.size := ⟨_, rfl⟩
                      have HZ8 : Hid (Blk (w6.alloc (.cells #[.int .i64 d.x, .int .i64 d.y, .int .i64 d.z] 26)) z8 26 d.cells) := Lib.hid (by rw [hz8e]; exact Blk.new w6 26 d.cells)
                      have Hz8e := Lib.hid hz8e
                      have hpost : waysP a b = (((L ++ crossesL a.E b.E) ++ pairsL (a.P.take k) b.P D) ++ (b.P.take m).flatMap (pairRow D x)) ++ d :: (D.map (fun e => crossP (shortP (crossP e d)) e) ++ ((b.P.drop (m + 1)).flatMap (pairRow D x) ++ pairsL (a.P.drop (k + 1)) b.P D)) := by
                        rw [HWD.out, pairs_split HHx.out, flat_split (pairRow D x) HHy.out, hrow]
                        simp only [List.append_assoc, List.cons_append]
                      have Hpost := Lib.hid hpost
                      obtain ⟨fn, tmps, assign, body, hy, hR⟩ := HY.out _ d _ hJ7 ⟨_, hpost⟩
                      clear hJ7 hB5 hB6 hB35 hB36 hB37 hB3 HJ HK HZ7 Hown hd hdn hrow hpost hz8e
                      gi_wp2
                      refine hR.mono ?_
                      rintro e W3 ⟨b', rfl, hb'⟩
                      rcases hb' with ⟨rfl, hJ4, hk4, hp4⟩ | ⟨rfl, hJx4⟩
                      case inr =>
                        gi_wp2
                        rw [Exit.noGoto_normal]
                        refine bodyPost_end (results_none rfl _ _ _) rfl ?_
                        exact ⟨⟨_, rfl⟩, .inr ⟨_, ⟨_, Hpost.out.trans (List.append_cons _ _ _)⟩, hJx4⟩⟩
                      case inl =>
                        have hK4 := HK7.out.trans hk4
                        have hz74 := blk_keepP HZ7'.out hp4
                        have hz84 := blk_keepP HZ8.out hp4
                        have hown4 := own_keepP HO7.out hp4
                        have hJd : J ((((L ++ crossesL a.E b.E) ++ pairsL (a.P.take k) b.P D) ++ (b.P.take m).flatMap (pairRow D x)) ++ [d] ++ (D.take 0).map (fun e => crossP (shortP (crossP e d)) e)) W3 := by simpa using hJ4
                        clear HK7 HZ7' HZ8 HO7 hJ4 hk4 hp4 hy hR
                        gi_wp2
                        rw [← Hz8e.out]
                        clear Hz8e
                        gi_loopg [17, 94] ND (fun g _ j wx => ∃ r : Nat, g = ND - r ∧ r ≤ ND ∧ j = .int .i64 (r : Int) ∧ J ((((L ++ crossesL a.E b.E) ++ pairsL (a.P.take k) b.P D) ++ (b.P.take m).flatMap (pairRow D x)) ++ [d] ++ (D.take r).map (fun e => crossP (shortP (crossP e d)) e)) wx ∧ KeepB bs W0 wx ∧ Blk wx z7 26 x.cells ∧ wx.ownsRow 0 26 3 (.slice vd ND vdc) ND (ptCells D) ∧ Blk wx z8 26 d.cells)
                        case atStart => exact ⟨0, rfl, Nat.zero_le _, rfl, hJd, hK4, hz74, hown4, hz84⟩
                        case round =>
                          clear hJd hK4 hz74 hown4 hz84
                          obtain ⟨r, hg3, hr, rfl, hJ, hK, hz7, hown, hz8⟩ := hrel
                          have Hg3 := Lib.hid hg3
                          clear hg3
                          by_cases hrN : r < ND
                          · obtain ⟨v, hv⟩ : ∃ v, D[r]? = some v := ⟨_, List.getElem?_eq_getElem (by rw [HDN.out]; exact hrN)⟩
                            have hvn := HDn.out v (List.mem_of_getElem? hv)
                            obtain ⟨g, gc, e0⟩ := own_addr hown (by omega)
                            obtain ⟨rfl, rfl⟩ : vd = some ⟨g, 0, none⟩ ∧ vdc = gc := by cases e0; exact ⟨rfl, rfl⟩
                            obtain ⟨p0, p1, p2⟩ := (Rd.of_own hown).pt hrN hv
                            rw [Nat.zero_add] at p0 p1 p2
                            have hrI : (r : Int) < (ND : Int) := by omega
                            obtain ⟨ws, hws⟩ : ∃ ws, wr.alloc (.cells #[.int .i64 v.x, .int .i64 v.y, .int .i64 v.z] 26) = ws := ⟨_, rfl⟩
                            have hB3 : Below wr.heap.size wr ws := by rw [← hws]; exact (Below.refl _ wr).alloc (Nat.le_refl _) _
                            have hz9 : Blk ws wr.heap.size 26 v.cells := by rw [← hws]; exact Blk.new wr 26 v.cells
                            have HJ := Lib.hid (HS.out _ wr ws hJ hB3)
                            have HK := Lib.hid (hK.step hbsW hB3)
                            have HZ7 := Lib.hid (hz7.below hB3 hz7.lt)
                            have HZ8 := Lib.hid (hz8.below hB3 hz8.lt)
                            have HO := Lib.hid (own_new hown hB3)
                            have HZ9 := Lib.hid hz9
                            have Hvn := Lib.hid hvn
                            have HHv := Lib.hid hv
                            clear hJ hK hz7 hown hz8 hvn hv hB3 hz9 e0
                            gi_upto_region 27 with (fail)
                            obtain ⟨z9, hz9e⟩ : ∃ z, z = wr.heap.size := ⟨_, rfl⟩
                            rw [← hz9e] at HZ9 ⊢
                            clear p0 p1 p2 hws hz9e
                            have hpost : waysP a b = ((((L ++ crossesL a.E b.E) ++ pairsL (a.P.take k) b.P D) ++ (b.P.take m).flatMap (pairRow D x)) ++ [d] ++ (D.take r).map (fun e => crossP (shortP (crossP e d)) e)) ++ crossP (shortP (crossP v d)) v :: ((D.drop (r + 1)).map (fun e => crossP (shortP (crossP e d)) e) ++ ((b.P.drop (m + 1)).flatMap (pairRow D x) ++ pairsL (a.P.drop (k + 1)) b.P D)) := by
                              rw [Hpost.out, map_split (fun e => crossP (shortP (crossP e d)) e) HHv.out]
                              simp only [List.append_assoc, List.cons_append, List.nil_append]
                            obtain ⟨s3, hs3⟩ : ∃ s3, s3 = crossP (shortP (crossP v d)) v := ⟨_, rfl⟩
                            rw [← hs3] at hpost
                            have Hmap : Hid ((D.take (r + 1)).map (fun e => crossP (shortP (crossP e d)) e) = (D.take r).map (fun e => crossP (shortP (crossP e d)) e) ++ [s3]) := Lib.hid (by rw [hs3]; exact map_snoc (fun e => crossP (shortP (crossP e d)) e) HHv.out)
                            have Hpost7 := Lib.hid hpost
                            obtain ⟨base, hbase⟩ : ∃ base, base = ((((L ++ crossesL a.E b.E) ++ pairsL (a.P.take k) b.P D) ++ (b.P.take m).flatMap (pairRow D x)) ++ [d] ++ (D.take r).map (fun e => crossP (shortP (crossP e d)) e)) := ⟨_, rfl⟩
                            rw [← hbase] at HJ Hpost7
                            have Hbase := Lib.hid hbase
                            have HC1 : Hid (∀ W, Calls Try.prog 49 #[ptV v, ptV d] W fun e W' => e = .returned (ptV (crossP v d)) ∧ Below W.heap.size W W') := Lib.hid fun W => cross49_any v d W Hvn.out Hdn.out
                            have HC2 : Hid (∀ W, Calls Try.prog 50 #[ptV (crossP v d)] W fun e W' => e = .returned (ptV (shortP (crossP v d))) ∧ Below W.heap.size W W') := Lib.hid fun W => short50_any (crossP v d) W
                            have HC3 : Hid (∀ W, Calls Try.prog 49 #[ptV (shortP (crossP v d)), ptV v] W fun e W' => e = .returned (ptV s3) ∧ Below W.heap.size W W') := Lib.hid fun W => by rw [hs3]; exact cross49_any _ v W (short_near _) Hvn.out
                            generalize shortP (crossP v d) = t2 at *
                            generalize crossP v d = t1 at *
                            clear hpost hs3 hbase
                            gi_cut [106, 108, 109] from 98 (fun vv v8 v9 wx => v8 = u108 ∧ v9 = u109 ∧ ∃ b' : Bool, vv = .bool (!b') ∧ ((b' = true ∧ J (base ++ [s3]) wx ∧ KeepB bs ws wx ∧ KeepP pvP ws wx) ∨ (b' = false ∧ Jx (base ++ [s3]) wx)))
                            case first =>
                              have c90 : _ = some (Value.int .i64 v.x) := HZ9.out.cell 0
                              have c91 : _ = some (Value.int .i64 v.y) := HZ9.out.cell 1
                              have c92 : _ = some (Value.int .i64 v.z) := HZ9.out.cell 2
                              have c80 : _ = some (Value.int .i64 d.x) := HZ8.out.cell 0
                              have c81 : _ = some (Value.int .i64 d.y) := HZ8.out.cell 1
                              have c82 : _ = some (Value.int .i64 d.z) := HZ8.out.cell 2
                              have HBc := (Below.refl ws.heap.size ws).drew
                              gi_region_with (first
                                | (refine ⟨trivial, ?_⟩; gi_at_call 49; with_reducible refine (callsIn_wide.2 (HC1.out _)).mono ?_; rintro e wa ⟨rfl, hBa⟩
                                   replace HBc := HBc.trans (hBa.mono HBc.size); clear hBa
                                   have hz := HZ9.out.below HBc HZ9.out.lt
                                   have g90 : _ = some (Value.int .i64 v.x) := hz.cell 0
                                   have g91 : _ = some (Value.int .i64 v.y) := hz.cell 1
                                   have g92 : _ = some (Value.int .i64 v.z) := hz.cell 2
                                   clear hz)
                                | (refine ⟨trivial, ?_⟩; gi_at_call 50; with_reducible refine (callsIn_wide.2 (HC2.out _)).mono ?_; rintro e wb ⟨rfl, hBa⟩
                                   replace HBc := HBc.trans (hBa.mono HBc.size); clear hBa
                                   have hz := HZ9.out.below HBc HZ9.out.lt
                                   have j90 : _ = some (Value.int .i64 v.x) := hz.cell 0
                                   have j91 : _ = some (Value.int .i64 v.y) := hz.cell 1
                                   have j92 : _ = some (Value.int .i64 v.z) := hz.cell 2
                                   clear hz)
                                | (refine ⟨trivial, ?_⟩; gi_at_call 49; with_reducible refine (callsIn_wide.2 (HC3.out _)).mono ?_; rintro e wc ⟨rfl, hBa⟩
                                   replace HBc := HBc.trans (hBa.mono HBc.size); clear hBa
                                   obtain ⟨fn, tmps, assign, body, hy, hR⟩ := HY.out base s3 wc (HS.out _ ws wc HJ.out HBc) ⟨_, Hpost7.out⟩)
                                | (refine hR.mono ?_; rintro e W3 ⟨b', rfl, hb'⟩))
                              all_goals (change Exit.then _ _ _ (Act.put _ (some 106) _) _)
                              all_goals simp only [Act.put, List.setIfInBounds_toArray, List.set_cons_zero, List.set_cons_succ, Exit.then]
                              all_goals gi_wp2
                              all_goals gi_meet
                              all_goals exact ⟨rfl, rfl, b', rfl, hb'.imp (fun ⟨h1, h2, h3, h4⟩ => ⟨h1, h2, KeepB.trans (KeepB.step (fun _ _ => rfl) (fun b hb => keep_lt (HK.out b hb) (Hbs.out b hb)) HBc) h3, (KeepP.of_below HBc).trans h4⟩) id⟩
                            case rest =>
                              obtain ⟨rfl, rfl, b', rfl, hb'⟩ := hcut
                              rcases hb' with ⟨rfl, hJ4, hk4, hp4⟩ | ⟨rfl, hJx4⟩
                              · have HJ4 := Lib.hid hJ4
                                have HK4 := Lib.hid (HK.out.trans hk4)
                                have HZ74 := Lib.hid (blk_keepP HZ7.out hp4)
                                have HZ84 := Lib.hid (blk_keepP HZ8.out hp4)
                                have HO4 := Lib.hid (own_keepP HO.out hp4)
                                clear hJ4 hk4 hp4
                                gi_wp2
                                go_roundg (ND - (r + 1))
                                case rel => exact ⟨r + 1, rfl, by omega, by go_num, by rw [Hmap.out, ← List.append_assoc, ← Hbase.out]; exact HJ4.out, HK4.out, HZ74.out, HO4.out, HZ84.out⟩
                                case measure => have := Hg3.out; omega
                              · gi_wp2
                                rw [Exit.noGoto_normal]
                                refine bodyPost_end (results_none rfl _ _ _) rfl ?_
                                exact ⟨⟨_, rfl⟩, .inr ⟨_, ⟨_, Hpost7.out.trans (List.append_cons _ _ _)⟩, hJx4⟩⟩
                          · obtain rfl : r = ND := by omega
                            have hall : D.take r = D := by rw [← HDN.out, List.take_length]
                            have hJ6 : J (((L ++ crossesL a.E b.E) ++ pairsL (a.P.take k) b.P D) ++ (b.P.take (m + 1)).flatMap (pairRow D x)) wr := by
                              rw [hall] at hJ
                              rw [flat_snoc (pairRow D x) HHy.out, Hrow.out]
                              simpa only [List.append_assoc, List.cons_append, List.nil_append] using hJ
                            clear hall hJ hz8
                            gi_wp2
                            go_roundg (NQ - (m + 1))
                            case rel => exact ⟨m + 1, rfl, by omega, by go_num, hJ6, hK, hz7, hown⟩
                            case measure => have := Hg2.out; omega
                    · obtain rfl : m = NQ := by omega
                      have hall : b.P.take m = b.P := by rw [HQ0.out, List.take_length]
                      rw [hall, List.append_assoc, ← pairs_snoc HHx.out] at hJ
                      clear hall hz7
                      gi_wp2
                      go_roundg (NP - (k + 1))
                      case rel => exact ⟨k + 1, rfl, by omega, by go_num, hJ, hK, hown⟩
                      case measure => have := Hg.out; omega
                · obtain rfl : k = NP := by omega
                  have hall : a.P.take k = a.P := by rw [HP0.out, List.take_length]
                  rw [hall, ← HWD.out] at hJ
                  clear hall hown
                  gi_wp2
                  rw [Exit.noGoto_normal]
                  refine bodyPost_end (results_none rfl _ _ _) rfl ?_
                  exact ⟨⟨_, rfl⟩, .inl hJ⟩
end Go.Proofs.Ytpbpdgknjbjlcaa
