/- PoolLays, walked. -/
import Derived.Test.YtafljpfephomoaaL1
import Derived.Test.YtafljpfephomoaaQ2
import Derived.Test.YtafljpfephomoaaP8
import Derived.LoopN
namespace Go.Proofs.Ytafljpfephomoaa
open Go.RowKit Go.Shelf
/-- Where the two pools and the boxes lie. -/
structure LayAt (b0 b10 p sb p' tb H : Nat) : Prop where
  o1 : b0 < p ∧ b0 < sb
  o2 : p < p' ∧ p < tb ∧ sb < p' ∧ sb < tb
  o3 : p' < b10 ∧ tb < b10
  o4 : H = b10 + 1
structure LE (dd : Option Nat) (w : World) (b0 b10 p sb p' tb n H : Nat) (tl : List Slot) (mq : Int) (sl : List Slot) (many : Int) (t : Value) (told : List Int) (W : World) : Prop where
  z0 : Blk W b0 4 [.bool false]
  z10 : Blk W b10 30 [.pointer (some ⟨p', 0, none⟩)]
  hq : PoolAt W p' tb n tl mq
  hp : PoolAt W p sb n sl many
  o : W.ownsRow H 38 1 t told.length (ints told)
  i64 : ∀ h ∈ told, In64 h
  bel : Below w.heap.size w W
  b : b0 = w.heap.size
  kd : ∀ D, dd = some D → W.heap[D]? = some (.deferred (some []))
variable {dd : Option Nat} {w : World} {b0 b10 p sb p' tb n H : Nat} {tl sl sl' : List Slot} {mq many many' : Int} {t t' : Value} {told : List Int} {W W' : World}
theorem LE.up (h : LE dd w b0 b10 p sb p' tb n H tl mq sl many t told W) (hA : LayAt b0 b10 p sb p' tb H) : H ≤ W.heap.size := by
  have h1 := h.z10.lt
  have h2 := hA.o4
  omega
theorem LE.pool (h : LE dd w b0 b10 p sb p' tb n H tl mq sl many t told W) (hA : LayAt b0 b10 p sb p' tb H) (hM : Mod (Pl p sb) W W') (hP : PoolAt W' p sb n sl' many') : LE dd w b0 b10 p sb p' tb n H tl mq sl' many' t told W' := by
  obtain ⟨⟨a1, a2⟩, ⟨a3, a4, a5, a6⟩, ⟨a7, a8⟩, a9⟩ := hA
  have hb := h.b
  exact ⟨h.z0.mod hM (by unfold Pl; omega), h.z10.mod hM (by unfold Pl; omega), h.hq.mod hM (by unfold Pl; omega) (by unfold Pl; omega), hP, own_mod h.o hM (fun j h1 h2 => by unfold Pl; omega), h.i64,
    h.bel.trans (hM.below h.bel.size (fun j h1 h2 => by rcases h2 with rfl | rfl <;> omega)), h.b, fun D e => by
      have hd := h.kd D e
      have hl := (Array.getElem?_eq_some_iff.1 hd).1
      rw [hM.block D hl ?_]
      · exact hd
      · rintro (rfl | rfl)
        · have := h.hp.head; unfold Blk at this; rw [this] at hd; cases hd
        · have := h.hp.slots; unfold Blk at this; rw [this] at hd; cases hd⟩
theorem LE.app (hE : LE dd w b0 b10 p sb p' tb n H tl mq sl many t told W) (hA : LayAt b0 b10 p sb p' tb H) {x : Obj} {h : Int} {row : Option Nat} (hg : (W.alloc x).grownBy W' row) (hrow : row = t.ownBlock) (ho : W'.ownsRow H 38 1 t' (told.length + 1) (ints (told ++ [h]))) (hin : In64 h) : LE dd w b0 b10 p sb p' tb n H tl mq sl many t' (told ++ [h]) W' := by
  obtain ⟨⟨a1, a2⟩, ⟨a3, a4, a5, a6⟩, ⟨a7, a8⟩, a9⟩ := hA
  have hr : ∀ r, row = some r → H ≤ r := fun r e => ownBlock_ge hE.o (hrow ▸ e)
  have hb := hE.b
  have hs := hE.bel.size
  have Bx : Below W.heap.size W (W.alloc x) := (Below.refl _ W).alloc (Nat.le_refl _) _
  have f1 := hE.z0.alloc x
  have f2 := hE.z10.alloc x
  have f3 := hE.hq.below Bx hE.hq.head.lt hE.hq.slots.lt
  have f4 := hE.hp.below Bx hE.hp.head.lt hE.hp.slots.lt
  refine ⟨f1.grown hg (fun e => by have := hr _ e; omega), f2.grown hg (fun e => by have := hr _ e; omega), f3.grownFrom hg hr (by omega) (by omega), f4.grownFrom hg hr (by omega) (by omega), ?_, ?_, (hE.bel.alloc hs _).grown hg (by simp; omega) (fun r e => by have := hr r e; omega), hb, fun D e => ?_⟩
  · rw [List.length_append]; exact ho
  · intro y hy
    rcases List.mem_append.1 hy with hy | hy
    · exact hE.i64 y hy
    · simp at hy; rw [hy]; exact hin
  · have hd := hE.kd D e
    have hl := (Array.getElem?_eq_some_iff.1 hd).1
    rw [hg.block D (by simp; omega) ?_, Below.heap_alloc _ _ _ hl]
    · exact hd
    · intro e2
      rw [hrow] at e2
      rcases hE.o.2 with ⟨h1, _⟩ | ⟨g, cap, cur, h1, _, h2, _⟩
      · rw [h1] at e2; simp [Value.ownBlock] at e2
      · rw [h1] at e2; simp [Value.ownBlock] at e2; rw [e2] at hd; rw [hd] at h2; cases h2
theorem keepsOthers_mod {S : Nat → Prop} (hM : Mod S W W') (h : ∀ b o, W.heap[b]? = some o → o.isCells = false → ¬ S b) : KeepsOthers W W' :=
  ⟨hM.size, fun b o hb ho => by
    have hl := (Array.getElem?_eq_some_iff.1 hb).1
    rw [hM.block b hl (h b o hb ho)]; exact hb⟩
theorem hOf_in64 (hp : PoolAt W p sb n sl many) {j : Nat} {s : Slot} (hs : sl[j]? = some s) : In64 (hOf s.age j) := by
  obtain ⟨_, _, _, h1, h2, h3, _⟩ := hp.slot hs
  have h4 := hp.room
  unfold In64 hOf
  constructor <;> omega
attribute [local go_sem] Oper.semAt_some
set_option maxRecDepth 100000 in
set_option maxHeartbeats 8000000 in
theorem lays_any (room : Int) (sv tv : Value) (m m2 : Nat) (ss ts : List Stp) (hm : ss.length = m) (hm2 : ts.length = m2) (hg : ∀ s ∈ ss, s.good) (hg2 : ∀ s ∈ ts, s.good) (w : World) (hroom : In64 room) (hr : Rd w sv m 4 (ss.flatMap encStp)) (hr2 : Rd w tv m2 4 (ts.flatMap encStp)) :
    Calls Try.prog 9 #[.int .i64 room, sv, tv] w fun e w' => e = .returned (.bool true) ∧ Below w.heap.size w w' := by
  obtain ⟨sa, sc, rfl⟩ : ∃ a c, sv = .slice a m c := by obtain ⟨a, c, h, _⟩ := hr; exact ⟨a, c, h⟩
  obtain ⟨ta, tc, rfl⟩ : ∃ a c, tv = .slice a m2 c := by obtain ⟨a, c, h, _⟩ := hr2; exact ⟨a, c, h⟩
  have Hm := Lib.hid hm; clear hm
  have Hm2 := Lib.hid hm2; clear hm2
  obtain ⟨r1, r2⟩ := hroom
  obtain ⟨t1, t2⟩ := pickN_range (c := room) (n := 30) (by omega)
  obtain ⟨q, hq⟩ : ∃ q : Nat, pickN room 30 = (q : Int) := ⟨(pickN room 30).toNat, by omega⟩
  rw [hq] at t1 t2
  have Hq := Lib.hid hq
  clear hq
  refine (callsIn_wide (n := 4)).1 ?_
  refine callsIn_of_wp_marks Try.func9 rfl trivial ?_ rfl
  simp only [Try.ntmps9, List.size_toArray, List.length_cons, List.length_nil, Nat.reduceAdd, Nat.reduceSub, Array.replicate_succ, Array.replicate_zero, List.push_toArray, List.append_toArray, List.nil_append, List.cons_append]
  refine wpIn_wide.2 ?_
  go_wp2_with fail
  refine (awake3_any _).mono ?_
  rintro e w1 ⟨rfl, B1⟩
  go_wp2_with fail
  refine (pick3_any room 30 w1 r1 r2 (by decide) (by decide)).mono ?_
  rintro e w1' ⟨rfl, rfl⟩
  rw [Hq.out]
  go_wp2_with fail
  refine (new_ok _ (1 + q) (by simp) w1 (by omega) (by omega)).mono ?_
  rintro e w2 ⟨p, sb, rfl, hp2, B2, hl1, hl2⟩
  go_wp2_with fail
  refine (new_ok _ (1 + q) (by simp) w2 (by omega) (by omega)).mono ?_
  rintro e w3 ⟨p', tb, rfl, hp3, B3, hl3, hl4⟩
  go_wp2_with fail
  obtain ⟨W0, hW0⟩ : ∃ W0, (w.alloc (.cells #[.bool false] 4)) = W0 := ⟨_, rfl⟩
  have x0 : Blk W0 w.heap.size 4 [.bool false] := by rw [← hW0]; exact Blk.new w 4 [_]
  have B0 : Below w.heap.size w W0 := by rw [← hW0]; exact (Below.refl _ w).alloc (Nat.le_refl _) _
  have hz0 : W0.heap.size = w.heap.size + 1 := by rw [← hW0]; simp
  rw [hW0] at B1
  clear hW0
  have B13 := B1.trans ((B2.trans (B3.mono B2.size)).mono B1.size)
  have B03 := B0.trans (B13.mono (by omega))
  have hp23 := hp2.below B3 hp2.head.lt hp2.slots.lt
  have y0 := x0.below B13 x0.lt
  obtain ⟨w4, hw4⟩ : ∃ w4, w3.alloc (.cells #[.pointer (some ⟨p', 0, none⟩)] 30) = w4 := ⟨_, rfl⟩
  have hz3 := B13.size
  have hP : PoolAt w4 p sb (1 + q) (List.replicate (1 + q) noSlot) 0 := by rw [← hw4]; exact hp23.below ((Below.refl _ _).alloc (Nat.le_refl _) _) hp23.head.lt hp23.slots.lt
  have hQ : PoolAt w4 p' tb (1 + q) (List.replicate (1 + q) noSlot) 0 := by rw [← hw4]; exact hp3.below ((Below.refl _ _).alloc (Nat.le_refl _) _) hp3.head.lt hp3.slots.lt
  have z0 : Blk w4 w.heap.size 4 [.bool false] := by rw [← hw4]; exact y0.alloc _
  have z10 : Blk w4 w3.heap.size 30 [.pointer (some ⟨p', 0, none⟩)] := by rw [← hw4]; exact Blk.new w3 30 [_]
  have B04 : Below w.heap.size w w4 := by rw [← hw4]; exact B03.alloc B03.size _
  have hz4 : w4.heap.size = w3.heap.size + 1 := by rw [← hw4]; simp
  have hps := hp2.head.lt
  have hss := hp2.slots.lt
  have hps3 := hp3.head.lt
  have hss3 := hp3.slots.lt
  have hsz2 := B2.size
  have hsz3 := B3.size
  have hsz1 := B1.size
  rw [hw4]
  clear hw4 hp23 hp2 hp3 y0 x0
  have hA : LayAt w.heap.size w3.heap.size p sb p' tb w4.heap.size := ⟨by omega, by omega, by omega, by omega⟩
  have hE : LE none w w.heap.size w3.heap.size p sb p' tb (1 + q) w4.heap.size (List.replicate (1 + q) noSlot) 0 (List.replicate (1 + q) noSlot) 0 (.slice none 0 0) [] w4 :=
    ⟨z0, z10, hQ, hP, World.ownsRow_nil _ _ _ _, fun h hh => by simp at hh, B04, rfl, fun D e => by cases e⟩
  have c0 := z0.cell 0
  have f0 := z0.frozen 0
  have c10 := z10.cell 0
  simp only [List.getElem?_cons_zero] at c0 c10
  clear z0 z10 hP B04
  refine wp_loop_rounds 3 ?_
  rw [rounds_succ]
  go_wp2_with fail
  refine (len_any p' tb _ _ _ _ hQ).mono ?_
  rintro e w5 ⟨rfl, rfl⟩
  go_upto_block 4 with (fail)
  go_cut [12] from 58 to 159 (fun t wx => ∃ (sl : List Slot) (told : List Int) (many : Int), told.length ≤ 100 ∧ LE none w w.heap.size w3.heap.size p sb p' tb (1 + q) w4.heap.size (List.replicate (1 + q) noSlot) 0 sl many t told wx)
  case first =>
    go_wp2_with fail
    go_loopw [12, 18] (fun t i wr => ∃ (k : Nat) (sl : List Slot) (told : List Int) (many : Int), k ≤ m ∧ k ≤ 100 ∧ told.length ≤ 0 + k ∧ i = .int .i64 k ∧ LE none w w.heap.size w3.heap.size p sb p' tb (1 + q) w4.heap.size (List.replicate (1 + q) noSlot) 0 sl many t told wr) (fun _ i _ => 100 - (intOf i).toNat)
    case atStart => exact ⟨0, _, _, _, Nat.zero_le _, Nat.zero_le _, Nat.le_refl _, rfl, hE⟩
    case round => as_aux_lemma =>
      clear hE hQ c0 f0 c10
      obtain ⟨k, sl, told, many, hk, hk2, htk, rfl, hE⟩ := hrel
      rcases (show (k < m ∧ k < 100) ∨ ¬ k < m ∨ (k < m ∧ ¬ k < 100) by omega) with ⟨hlt, hlt2⟩ | hlt | ⟨hlt, hlt2⟩
      · obtain ⟨lb, lo, rfl⟩ := hr.addr (by omega)
        have hrR := hr.new hE.bel
        have hkl : k < ss.length := by rw [Hm.out]; exact hlt
        obtain ⟨st, hst⟩ : ∃ st, st = ss[k]?.getD default := ⟨_, rfl⟩
        have hgood := hg st (by rw [hst, List.getElem?_eq_getElem hkl]; exact List.getElem_mem hkl)
        have g0 := hrR.at (i := k * 4 + 0) (by omega)
        have g1 := hrR.at (i := k * 4 + 1) (by omega)
        have g2 := hrR.at (i := k * 4 + 2) (by omega)
        rw [steps_get hkl _ (by decide), ← hst, ← Nat.add_assoc] at g0 g1 g2
        simp only [encStp, List.getElem?_cons_zero, List.getElem?_cons_succ, Nat.add_zero] at g0 g1 g2
        obtain ⟨sw, sn, sx, near⟩ := st
        obtain ⟨⟨w1', w2'⟩, ⟨n1', n2'⟩, x1', x2'⟩ := hgood
        simp only at g0 g1 g2 w1' w2' n1' n2' x1' x2'
        have hltI : (k : Int) < 100 := by omega
        have hkm : (k : Int) < (m : Int) := by omega
        clear hst hrR
        obtain ⟨tv, tw, rfl, htv1, htv2⟩ := (Rd.of_own hE.o).shape
        have hi64 := Lib.hid hE.i64
        obtain ⟨T, hT⟩ : ∃ T, T = told.length := ⟨_, rfl⟩
        rw [← hT] at htk htv1 ⊢
        have HT := Lib.hid hT
        clear hT
        go_wp2_with fail
        refine (pick3_any sw 2 _ w1' w2' (by decide) (by decide)).mono ?_
        rintro e w5 ⟨rfl, rfl⟩
        by_cases h0 : pickN sw 2 = 0
        · have e0 : (pickN sw 2 == 0) = true := by simp [h0]
          clear h0
          cases hpn : putN sl (1 + q) with
          | none =>
            have Hpn := Lib.hid hpn
            clear hpn
            go_wp2_with fail
            refine (put_no sx p sb _ _ _ _ hE.hp Hpn.out).mono ?_
            rintro e w6 ⟨rfl, hP6, hM6⟩
            go_wp2
            exact ⟨⟨k + 1, sl, told, many, by omega, by omega, by have := HT.out; omega, by simp, by rw [HT.out]; exact hE.pool hA hM6 hP6⟩, by simp [intOf]; omega⟩
          | some j0 =>
            obtain ⟨hj0, s0, hs0, hf0⟩ := put_some_spec hpn
            have hin : In64 (hOf s0.age j0) := hOf_in64 hE.hp hs0
            have Hpn := Lib.hid hpn
            have Hs0 := Lib.hid hs0
            clear hpn hs0 hf0
            go_wp2_with fail
            refine (put_yes sx p sb _ j0 _ _ _ hE.hp s0 Hs0.out Hpn.out (hOf s0.age j0) rfl).mono ?_
            rintro e w6 ⟨rfl, hP6, hM6⟩
            generalize hOf s0.age j0 = H at *
            have hE6 := hE.pool hA hM6 hP6
            have o6 := hE6.o
            have hz6 := hE6.up hA
            rw [← HT.out] at o6
            obtain ⟨i38, hi38, hza, hzb, hzc⟩ := info_parts info38
            go_wp2_with (at_builtin; refine wpList_append_own _ rfl _ _ 34 rfl w4.heap.size 38 i38 (.int .i64 0) 1 8 Try.underlying34 hi38 hza hzb hzc rfl (by decide) _ _ _ rfl (o6.alloc _) ⟨w6.heap.size, 0, none⟩ 1 1 [.int .i64 H] rfl rfl (World.news_of_block (cs := #[.int .i64 H]) (t := 38) (fr := (0, 0)) (heap_alloc_new w6 _)) (by simp [Value.oneCell']) (by unfold maxLen; omega) (by omega) (by simp; omega) ?_; intro v7 w7 o7 hg7 _)
            have hE7 := hE6.app hA (h := H) hg7 (by rw [← HT.out]; rfl) (by have := HT.out; rw [← this]; simpa [ints] using o7) hin
            exact ⟨⟨k + 1, _, told ++ [H], many + 1, by omega, by omega, by have := HT.out; rw [List.length_append]; simp only [List.length_cons, List.length_nil]; omega, by simp, hE7⟩, by simp [intOf]; omega⟩
        · have e0 : (pickN sw 2 == 0) = false := by simpa using h0
          clear h0
          by_cases hT0 : T = 0
          · have hTn : ¬ 0 < T := by omega
            clear hT0
            go_wp2_with fail
            exact ⟨⟨k + 1, sl, told, many, by omega, by omega, by have := HT.out; omega, by simp, by rw [HT.out]; exact hE⟩, by simp [intOf]; omega⟩
          · obtain ⟨u1, u2⟩ := pickN_range (c := sn) (n := (T : Int)) (by omega)
            obtain ⟨k2, hk2⟩ : ∃ k2 : Nat, pickN sn (T : Int) = (k2 : Int) := ⟨(pickN sn T).toNat, by omega⟩
            rw [hk2] at u1 u2
            have Hk2 := Lib.hid hk2
            clear hk2
            have o6 := hE.o
            rw [← HT.out] at o6
            obtain ⟨tb', tc', e1⟩ := own_shape o6 hT0
            simp only [Value.slice.injEq, true_and] at e1
            obtain ⟨rfl, rfl⟩ := e1
            have hT1 : 0 < T := by omega
            have v1 := (Rd.of_own o6).int HT.out.symm (i := k2) (by omega)
            rw [Nat.zero_add] at v1
            have h64 := hi64.out (told[k2]?.getD 0) (by rw [List.getElem?_eq_getElem (by have := HT.out; omega)]; exact List.getElem_mem _)
            go_wp2_with fail
            refine (pick3_any sn T _ n1' n2' (by omega) (by omega)).mono ?_
            rintro e w6 ⟨rfl, rfl⟩
            rw [Hk2.out]
            go_wp2_with fail
            cases hat : atN sl (told[k2]?.getD 0) with
            | none =>
              refine (drop_none _ p sb _ _ _ _ hE.hp h64 hat).mono ?_
              rintro e wm ⟨rfl, rfl⟩
              clear hat
              go_wp2
              exact ⟨⟨k + 1, sl, told, many, by omega, by omega, by have := HT.out; omega, by simp, by rw [HT.out]; exact hE⟩, by simp [intOf]; omega⟩
            | some j0 =>
              obtain ⟨s0, hs0, _⟩ := atN_some hat
              refine (drop_some _ p sb _ j0 _ _ _ hE.hp h64 s0 hat hs0).mono ?_
              rintro e w7 ⟨rfl, hP7, hM7⟩
              clear hat hs0
              go_wp2
              exact ⟨⟨k + 1, _, told, many - 1, by omega, by omega, by have := HT.out; omega, by simp, by rw [HT.out]; exact hE.pool hA hM7 hP7⟩, by simp [intOf]; omega⟩
      all_goals
        go_wp2
        go_meet
        exact ⟨sl, told, many, by omega, hE⟩
  case rest =>
    clear hE hQ c0 f0 c10
    obtain ⟨sl1, told1, many1, htk1, hE⟩ := hcut
    have c10 := hE.z10.cell 0
    simp only [List.getElem?_cons_zero] at c10
    go_wp2_with fail
    refine (len_any p' tb _ _ _ _ hE.hq).mono ?_
    rintro e w5 ⟨rfl, rfl⟩
    go_wp2_with fail
    rw [rounds_succ]
    go_wp2_with fail
    refine (all_any _ _).mono ?_
    rintro e w6 ⟨rfl, rfl⟩
    go_wp2_with fail
    have hup := hE.up hA
    obtain ⟨V, hV⟩ : ∃ V, wc.alloc (.cells #[.pointer (some ⟨p, 0, none⟩)] 30) = V := ⟨_, rfl⟩
    have zb : Blk V wc.heap.size 30 [.pointer (some ⟨p, 0, none⟩)] := by rw [← hV]; exact Blk.new wc 30 [_]
    have BV : Below wc.heap.size wc V := by rw [← hV]; exact (Below.refl _ _).alloc (Nat.le_refl _) _
    have hVs : V.heap.size = wc.heap.size + 1 := by rw [← hV]; simp
    rw [hV]
    clear hV
    have hPV := hE.hp.below BV hE.hp.head.lt hE.hp.slots.lt
    have hQV := hE.hq.below BV hE.hq.head.lt hE.hq.slots.lt
    have v0 := hE.z0.below BV hE.z0.lt
    have v10 := hE.z10.below BV hE.z10.lt
    have oV := own_new hE.o BV
    have belV := hE.bel.trans (BV.mono hE.bel.size)
    have i641 := Lib.hid hE.i64
    have hages := Lib.hid hE.hp.ages
    have hlen1 := Lib.hid hE.hp.len
    obtain ⟨⟨a1, a2⟩, ⟨a3, a4, a5, a6⟩, ⟨a7, a8⟩, a9⟩ := hA
    have hA : LayAt w.heap.size w3.heap.size p sb p' tb w4.heap.size := ⟨⟨a1, a2⟩, ⟨a3, a4, a5, a6⟩, ⟨a7, a8⟩, a9⟩
    clear hE c10
    have hQV0 : PoolAt V p' tb (1 + q) (laid sl1 0) 0 := by rw [laid_zero, hlen1.out]; exact hQV
    refine wpIn_wide.1 (range_list (F := Fence.wide) (n := 3) rfl (by decide) (gf := 46) (lb := #[.pointer (some ⟨wc.heap.size, 0, none⟩)]) rfl trivial (enters_of Try.func46 (by kernel_rfl) rfl)
      (all_seq 2 (by decide) wc.heap.size p sb (1 + q) _ _ V zb hPV)
      (by
        intro b hb
        simp only [List.mem_cons, List.not_mem_nil, or_false] at hb
        rcases hb with rfl | rfl | rfl <;> omega)
      (Below.refl _ _) (fun _ => rfl)
      (fun pre W => ∃ j mq, pre = allTo sl1 j ∧ PoolAt W p' tb (1 + q) (laid sl1 j) mq ∧ Mod (fun j => j = p' ∨ j = tb ∨ V.heap.size ≤ j) V W)
      (fun _ _ _ => False)
      ?own ?ownx ⟨0, 0, rfl, hQV0, Mod.refl _ _⟩
      (fun x => { tmps := List.toArray (.int .i64 (1 + q) :: .slice sa m sc :: .slice ta m2 tc :: undef :: undef :: undef :: .pointer (some ⟨w.heap.size, 0, none⟩) :: .bool true :: .pointer (some ⟨p, 0, none⟩) :: .int .i64 0 :: .pointer (some ⟨w3.heap.size, 0, none⟩) :: .int .i64 0 :: u12 :: .int .i64 1 :: .slice ta m2 tc :: .int .i64 x.1 :: .int .i64 x.2 :: .int .i64 0 :: u18 :: u19 :: u20 :: undef :: undef :: undef :: undef :: undef :: .bool true :: .int .i64 room :: .int .i64 q :: .int .i64 (1 + q) :: .tuple #[.pointer (some ⟨p, 0, none⟩), .int .i64 0] :: .int .i64 (1 + q) :: .tuple #[.pointer (some ⟨p, 0, none⟩), .int .i64 0] :: .pointer (some ⟨p, 0, none⟩) :: .int .i64 0 :: .tuple #[.pointer (some ⟨p', 0, none⟩), .int .i64 0] :: .int .i64 (1 + q) :: .tuple #[.pointer (some ⟨p', 0, none⟩), .int .i64 0] :: .pointer (some ⟨p', 0, none⟩) :: .int .i64 0 :: .bool true :: .bool false :: .bool false :: .pointer (some ⟨p, 0, none⟩) :: .bool false :: .bool false :: .bool false :: .pointer (some ⟨p', 0, none⟩) :: .bool false :: .bool false :: .bool false :: .int .i64 0 :: .bool false :: .bool false :: .bool false :: .int .i64 0 :: .bool false :: .bool false :: .int .i64 1 :: .bool true :: .int .i64 0 :: .int .i64 1 :: .slice sa m sc :: .int .i64 1 :: .bool true :: .slice ta m2 tc :: .pointer (some ⟨p, 0, none⟩) :: .func (.func 46) #[] #[.pointer (some ⟨wc.heap.size, 0, none⟩)] :: .int .i64 x.1 :: .int .i64 x.2 :: u70 :: u71 :: u72 :: u73 :: u74 :: u75 :: u76 :: u77 :: u78 :: u79 :: u80 :: u81 :: u82 :: u83 :: u84 :: u85 :: u86 :: u87 :: u88 :: u89 :: u90 :: u91 :: u92 :: u93 :: u94 :: u95 :: u96 :: u97 :: u98 :: u99 :: u100 :: u101 :: u102 :: u103 :: u104 :: u105 :: u106 :: u107 :: u108 :: u109 :: u110 :: u111 :: u112 :: u113 :: u114 :: u115 :: u116 :: u117 :: u118 :: u119 :: u120 :: u121 :: u122 :: u123 :: u124 :: u125 :: u126 :: u127 :: u128 :: u129 :: u130 :: u131 :: .pointer (some ⟨p', 0, none⟩) :: .int .i64 0 :: .int .i64 0 :: .bool false :: .int .i64 0 :: .bool true :: u138 :: u139 :: u140 :: u141 :: u142 :: u143 :: u144 :: u145 :: u146 :: u147 :: u148 :: u149 :: u150 :: u151 :: u152 :: u153 :: u154 :: u155 :: u156 :: u157 :: u158 :: u159 :: []), defers := [] })
      ?assign ?body ?done ?stop)
    case own =>
      rintro pre A B row ⟨j, mq, rfl, h1, h2⟩ hg hr
      exact ⟨j, mq, rfl, h1.grownFrom hg (fun r e => (hr r e).1) (by omega) (by omega), h2.grown hg (fun r e _ => .inr (.inr (hr r e).1))⟩
    case ownx => exact fun c pre A B row hs hg hr => hs
    case assign =>
      intro l x W K hK
      gi_wp2
      exact hK
    case body =>
      rintro l pre x W hl ⟨r, hrr⟩ ⟨j, mq, rfl, hQj, hM⟩ ⟨post, hpost⟩
      obtain ⟨j2, s, hj2, hs, hf, hx, hpre⟩ := allTo_at sl1 (1 + q) _ post x hpost
      obtain ⟨x1, x2⟩ := x
      obtain ⟨hx1, hx2⟩ : x1 = hOf s.age j2 ∧ x2 = s.what := by simp only [Prod.mk.injEq] at hx; exact hx
      have hnx : allTo sl1 (j2 + 1) = allTo sl1 j ++ [(x1, x2)] := by rw [hpre, hx]; simp only [allTo, hs, hf, if_true]
      rw [laid_of hpre] at hQj
      have hag := hages.out s (List.mem_of_getElem? hs)
      obtain ⟨L1, L2, L3⟩ := laid_lay (j := j2) (by omega) hag.1 (hag.2.2 hf) hs hf
      have h64 : In64 x1 := by
        have := hag.2.2 hf
        rw [hx1]; unfold In64 hOf; constructor <;> omega
      rw [← hx1, ← hx2] at L2
      rw [← hx1] at L1 L3
      have b10 := (v10.mod hM (by omega)).cell 0
      simp only [List.getElem?_cons_zero] at b10
      have HNX := Lib.hid hnx
      have HL3 := Lib.hid L3
      have hc1 : CallsIn (Fence.wide.inRound l) 0 Try.prog 28 _ _ _ := (callsIn_wide (n := 0)).2 (lay_some x1 x2 p' tb (1 + q) j2 _ _ W hQj h64 L1)
      rw [L2] at hc1
      clear hs hf hpre hpost hx hx1 hx2 hnx L1 L2 L3 hag
      gi_wp2_with fail
      refine ⟨trivial, hc1.mono ?_⟩
      rintro e W2 ⟨rfl, hQ2, hM2⟩
      have mW2 : Mod (fun j => j = p' ∨ j = tb ∨ V.heap.size ≤ j) V W2 := hM.trans (hM2.mono (fun j _ h => by rcases h with rfl | rfl <;> simp))
      have b102 := (v10.mod mW2 (by omega)).cell 0
      simp only [List.getElem?_cons_zero] at b102
      have hc2 : CallsIn (Fence.wide.inRound l) 0 Try.prog 28 _ _ _ := (callsIn_wide (n := 0)).2 (lay_none x1 x2 p' tb (1 + q) _ _ W2 hQ2 h64 HL3.out)
      gi_wp2_with fail
      refine ⟨trivial, hc2.mono ?_⟩
      rintro e W3 ⟨rfl, rfl⟩
      gi_wp2
      refine ⟨keepsOthers_mod hM2 (fun b o hb ho => ?_), KeepB.mod hM2 (fun b hb => ?_), j2 + 1, mq + 1, HNX.out.symm, hQ2, mW2⟩
      · rintro (rfl | rfl)
        · have := hQj.head; unfold Blk at this; rw [this] at hb; obtain rfl := Option.some.inj hb; cases ho
        · have := hQj.slots; unfold Blk at this; rw [this] at hb; obtain rfl := Option.some.inj hb; cases ho
      · have hsz := hM.size
        unfold Pl
        simp only [List.mem_cons, List.not_mem_nil, or_false] at hb
        rcases hb with rfl | rfl | rfl <;> omega
    case done =>
      rintro D W hD ⟨j, mq, hj, hQj, hM⟩ hK
      rw [laid_of hj.symm] at hQj
      have b10 := (v10.mod hM (by omega)).cell 0
      simp only [List.getElem?_cons_zero] at b10
      have hE : LE (some D) w w.heap.size w3.heap.size p sb p' tb (1 + q) w4.heap.size (laid sl1 (1 + q)) mq sl1 many1 _ told1 W :=
        ⟨v0.mod hM (by omega), v10.mod hM (by omega), hQj, hPV.mod hM (by omega) (by omega), own_mod oV hM (fun j h1 h2 => by omega), i641.out,
          belV.trans (hM.below belV.size (fun j h1 h2 => by omega)), rfl, fun D' e => by cases e; exact hK⟩
      clear hPV hQV hQV0 v0 v10 oV belV zb hQj hK hM
      gi_wp2
      go_wp2_with fail
      refine (len_any p' tb _ _ _ _ hE.hq).mono ?_
      rintro e w5 ⟨rfl, rfl⟩
      go_upto_block 4 with (fail)
      go_cut [12] from 58 to 159 (fun t wx => ∃ (sl : List Slot) (told : List Int) (many : Int), told.length ≤ 200 ∧ LE (some D) w w.heap.size w3.heap.size p sb p' tb (1 + q) w4.heap.size (laid sl1 (1 + q)) mq sl many t told wx)
      case first =>
        go_wp2_with fail
        go_loopw [12, 18] (fun t i wr => ∃ (k : Nat) (sl : List Slot) (told : List Int) (many : Int), k ≤ m2 ∧ k ≤ 100 ∧ told.length ≤ 100 + k ∧ i = .int .i64 k ∧ LE (some D) w w.heap.size w3.heap.size p sb p' tb (1 + q) w4.heap.size (laid sl1 (1 + q)) mq sl many t told wr) (fun _ i _ => 100 - (intOf i).toNat)
        case atStart => exact ⟨0, _, _, _, Nat.zero_le _, Nat.zero_le _, (by omega), rfl, hE⟩
        case round => as_aux_lemma =>
          clear hE b10
          obtain ⟨k, sl, told, many, hk, hk2, htk, rfl, hE⟩ := hrel
          rcases (show (k < m2 ∧ k < 100) ∨ ¬ k < m2 ∨ (k < m2 ∧ ¬ k < 100) by omega) with ⟨hlt, hlt2⟩ | hlt | ⟨hlt, hlt2⟩
          · obtain ⟨lb, lo, rfl⟩ := hr2.addr (by omega)
            have hrR := hr2.new hE.bel
            have hkl : k < ts.length := by rw [Hm2.out]; exact hlt
            obtain ⟨st, hst⟩ : ∃ st, st = ts[k]?.getD default := ⟨_, rfl⟩
            have hgood := hg2 st (by rw [hst, List.getElem?_eq_getElem hkl]; exact List.getElem_mem hkl)
            have g0 := hrR.at (i := k * 4 + 0) (by omega)
            have g1 := hrR.at (i := k * 4 + 1) (by omega)
            have g2 := hrR.at (i := k * 4 + 2) (by omega)
            rw [steps_get hkl _ (by decide), ← hst, ← Nat.add_assoc] at g0 g1 g2
            simp only [encStp, List.getElem?_cons_zero, List.getElem?_cons_succ, Nat.add_zero] at g0 g1 g2
            obtain ⟨sw, sn, sx, near⟩ := st
            obtain ⟨⟨w1', w2'⟩, ⟨n1', n2'⟩, x1', x2'⟩ := hgood
            simp only at g0 g1 g2 w1' w2' n1' n2' x1' x2'
            have hltI : (k : Int) < 100 := by omega
            have hkm : (k : Int) < (m2 : Int) := by omega
            clear hst hrR
            obtain ⟨tv, tw, rfl, htv1, htv2⟩ := (Rd.of_own hE.o).shape
            have hi64 := Lib.hid hE.i64
            obtain ⟨T, hT⟩ : ∃ T, T = told.length := ⟨_, rfl⟩
            rw [← hT] at htk htv1 ⊢
            have HT := Lib.hid hT
            clear hT
            go_wp2_with fail
            refine (pick3_any sw 2 _ w1' w2' (by decide) (by decide)).mono ?_
            rintro e w5 ⟨rfl, rfl⟩
            by_cases h0 : pickN sw 2 = 0
            · have e0 : (pickN sw 2 == 0) = true := by simp [h0]
              clear h0
              cases hpn : putN sl (1 + q) with
              | none =>
                have Hpn := Lib.hid hpn
                clear hpn
                go_wp2_with fail
                refine (put_no sx p sb _ _ _ _ hE.hp Hpn.out).mono ?_
                rintro e w6 ⟨rfl, hP6, hM6⟩
                go_wp2
                exact ⟨⟨k + 1, sl, told, many, by omega, by omega, by have := HT.out; omega, by simp, by rw [HT.out]; exact hE.pool hA hM6 hP6⟩, by simp [intOf]; omega⟩
              | some j0 =>
                obtain ⟨hj0, s0, hs0, hf0⟩ := put_some_spec hpn
                have hin : In64 (hOf s0.age j0) := hOf_in64 hE.hp hs0
                have Hpn := Lib.hid hpn
                have Hs0 := Lib.hid hs0
                clear hpn hs0 hf0
                go_wp2_with fail
                refine (put_yes sx p sb _ j0 _ _ _ hE.hp s0 Hs0.out Hpn.out (hOf s0.age j0) rfl).mono ?_
                rintro e w6 ⟨rfl, hP6, hM6⟩
                generalize hOf s0.age j0 = H at *
                have hE6 := hE.pool hA hM6 hP6
                have o6 := hE6.o
                have hz6 := hE6.up hA
                rw [← HT.out] at o6
                obtain ⟨i38, hi38, hza, hzb, hzc⟩ := info_parts info38
                go_wp2_with (at_builtin; refine wpList_append_own _ rfl _ _ 34 rfl w4.heap.size 38 i38 (.int .i64 0) 1 8 Try.underlying34 hi38 hza hzb hzc rfl (by decide) _ _ _ rfl (o6.alloc _) ⟨w6.heap.size, 0, none⟩ 1 1 [.int .i64 H] rfl rfl (World.news_of_block (cs := #[.int .i64 H]) (t := 38) (fr := (0, 0)) (heap_alloc_new w6 _)) (by simp [Value.oneCell']) (by unfold maxLen; omega) (by omega) (by simp; omega) ?_; intro v7 w7 o7 hg7 _)
                have hE7 := hE6.app hA (h := H) hg7 (by rw [← HT.out]; rfl) (by have := HT.out; rw [← this]; simpa [ints] using o7) hin
                exact ⟨⟨k + 1, _, told ++ [H], many + 1, by omega, by omega, by have := HT.out; rw [List.length_append]; simp only [List.length_cons, List.length_nil]; omega, by simp, hE7⟩, by simp [intOf]; omega⟩
            · have e0 : (pickN sw 2 == 0) = false := by simpa using h0
              clear h0
              by_cases hT0 : T = 0
              · have hTn : ¬ 0 < T := by omega
                clear hT0
                go_wp2_with fail
                exact ⟨⟨k + 1, sl, told, many, by omega, by omega, by have := HT.out; omega, by simp, by rw [HT.out]; exact hE⟩, by simp [intOf]; omega⟩
              · obtain ⟨u1, u2⟩ := pickN_range (c := sn) (n := (T : Int)) (by omega)
                obtain ⟨k2, hk2⟩ : ∃ k2 : Nat, pickN sn (T : Int) = (k2 : Int) := ⟨(pickN sn T).toNat, by omega⟩
                rw [hk2] at u1 u2
                have Hk2 := Lib.hid hk2
                clear hk2
                have o6 := hE.o
                rw [← HT.out] at o6
                obtain ⟨tb', tc', e1⟩ := own_shape o6 hT0
                simp only [Value.slice.injEq, true_and] at e1
                obtain ⟨rfl, rfl⟩ := e1
                have hT1 : 0 < T := by omega
                have v1 := (Rd.of_own o6).int HT.out.symm (i := k2) (by omega)
                rw [Nat.zero_add] at v1
                have h64 := hi64.out (told[k2]?.getD 0) (by rw [List.getElem?_eq_getElem (by have := HT.out; omega)]; exact List.getElem_mem _)
                go_wp2_with fail
                refine (pick3_any sn T _ n1' n2' (by omega) (by omega)).mono ?_
                rintro e w6 ⟨rfl, rfl⟩
                rw [Hk2.out]
                go_wp2_with fail
                cases hat : atN sl (told[k2]?.getD 0) with
                | none =>
                  refine (drop_none _ p sb _ _ _ _ hE.hp h64 hat).mono ?_
                  rintro e wm ⟨rfl, rfl⟩
                  clear hat
                  go_wp2
                  exact ⟨⟨k + 1, sl, told, many, by omega, by omega, by have := HT.out; omega, by simp, by rw [HT.out]; exact hE⟩, by simp [intOf]; omega⟩
                | some j0 =>
                  obtain ⟨s0, hs0, _⟩ := atN_some hat
                  refine (drop_some _ p sb _ j0 _ _ _ hE.hp h64 s0 hat hs0).mono ?_
                  rintro e w7 ⟨rfl, hP7, hM7⟩
                  clear hat hs0
                  go_wp2
                  exact ⟨⟨k + 1, _, told, many - 1, by omega, by omega, by have := HT.out; omega, by simp, by rw [HT.out]; exact hE.pool hA hM7 hP7⟩, by simp [intOf]; omega⟩
          all_goals
            go_wp2
            go_meet
            exact ⟨sl, told, many, by omega, hE⟩
      case rest =>
        clear hE b10
        obtain ⟨sl2, told2, many2, htk2, hE⟩ := hcut
        have c10 := hE.z10.cell 0
        simp only [List.getElem?_cons_zero] at c10
        have hlt10 := hE.z10.lt
        have hmm : (mq != mq) = false := by simp
        go_wp2_with fail
        refine (len_any p' tb _ _ _ _ hE.hq).mono ?_
        rintro e w5 ⟨rfl, rfl⟩
        go_wp2_with fail
        refine (all_any _ _).mono ?_
        rintro e w6 ⟨rfl, rfl⟩
        go_wp2_with fail
        obtain ⟨V2, hV2⟩ : ∃ V2, (wc.alloc (.cells #[.int .i64 0] 3)).alloc (.cells #[.pointer (some ⟨p', 0, none⟩)] 30) = V2 := ⟨_, rfl⟩
        have zm : Blk V2 wc.heap.size 3 [.int .i64 0] := by rw [← hV2]; exact (Blk.new wc 3 [_]).alloc _
        have zb2 : Blk V2 (wc.heap.size + 1) 30 [.pointer (some ⟨p', 0, none⟩)] := by rw [← hV2]; exact Blk.newAt (by simp) 30 [_]
        have BV2 : Below wc.heap.size wc V2 := by rw [← hV2]; exact ((Below.refl _ _).alloc (Nat.le_refl _) _).alloc (by simp) _
        have hVs2 : V2.heap.size = wc.heap.size + 2 := by rw [← hV2]; simp
        rw [hV2]
        clear hV2
        have hQ2 := hE.hq.below BV2 hE.hq.head.lt hE.hq.slots.lt
        have v0 := hE.z0.below BV2 hE.z0.lt
        have v10 := hE.z10.below BV2 hE.z10.lt
        have belV2 := hE.bel.trans (BV2.mono hE.bel.size)
        have hkd := hE.kd D rfl
        have hDlt := (Array.getElem?_eq_some_iff.1 hkd).1
        have hkd2 : V2.heap[D]? = some (.deferred (some [])) := (BV2.block D hDlt).trans hkd
        have hmq := Lib.hid hQ2.many
        have hqlen := Lib.hid hQ2.len
        have hqages := Lib.hid hQ2.ages
        have hup2 := hE.up hA
        have hwB := hE.bel.size
        have hne : ∀ b, b < wc.heap.size → D ≠ b ∨ b = D := fun b _ => by omega
        clear hE c10 hkd
        refine wpIn_wide.1 (range_list (F := Fence.wide) (n := 3) rfl (by decide) (gf := 46) (lb := #[.pointer (some ⟨wc.heap.size + 1, 0, none⟩)]) rfl trivial (enters_of Try.func46 (by kernel_rfl) rfl)
          (all_seq 2 (by decide) (wc.heap.size + 1) p' tb (1 + q) _ _ V2 zb2 hQ2)
          (by
            intro b hb
            simp only [List.mem_cons, List.not_mem_nil, or_false] at hb
            rcases hb with rfl | rfl | rfl <;> omega)
          (Below.refl _ _) (fun _ => rfl)
          (fun pre W => Mod (fun j => j = wc.heap.size ∨ V2.heap.size ≤ j) V2 W ∧ Blk W wc.heap.size 3 [.int .i64 pre.length])
          (fun _ _ _ => False)
          ?own2 ?ownx2 ⟨Mod.refl _ _, zm⟩
          (fun x => { tmps := List.toArray (.int .i64 (1 + q) :: .slice sa m sc :: .slice ta m2 tc :: undef :: undef :: undef :: .pointer (some ⟨w.heap.size, 0, none⟩) :: .bool true :: .pointer (some ⟨p, 0, none⟩) :: .int .i64 0 :: .pointer (some ⟨w3.heap.size, 0, none⟩) :: .int .i64 0 :: u12 :: .int .i64 1 :: .slice ta m2 tc :: undef :: undef :: .int .i64 mq :: u18 :: u19 :: u20 :: .pointer (some ⟨wc.heap.size, 0, none⟩) :: .int .i64 x.1 :: .int .i64 x.2 :: undef :: undef :: .bool true :: .int .i64 room :: .int .i64 q :: .int .i64 (1 + q) :: .tuple #[.pointer (some ⟨p, 0, none⟩), .int .i64 0] :: .int .i64 (1 + q) :: .tuple #[.pointer (some ⟨p, 0, none⟩), .int .i64 0] :: .pointer (some ⟨p, 0, none⟩) :: .int .i64 0 :: .tuple #[.pointer (some ⟨p', 0, none⟩), .int .i64 0] :: .int .i64 (1 + q) :: .tuple #[.pointer (some ⟨p', 0, none⟩), .int .i64 0] :: .pointer (some ⟨p', 0, none⟩) :: .int .i64 0 :: .bool true :: .bool false :: .bool false :: .pointer (some ⟨p, 0, none⟩) :: .bool false :: .bool false :: .bool false :: .pointer (some ⟨p', 0, none⟩) :: .bool false :: .bool false :: .bool false :: .int .i64 0 :: .bool false :: .bool false :: .bool false :: .int .i64 0 :: .bool false :: .bool false :: u58 :: u59 :: u60 :: u61 :: u62 :: u63 :: u64 :: u65 :: u66 :: u67 :: u68 :: u69 :: u70 :: u71 :: u72 :: u73 :: u74 :: u75 :: u76 :: u77 :: u78 :: u79 :: u80 :: u81 :: u82 :: u83 :: u84 :: u85 :: u86 :: u87 :: u88 :: u89 :: u90 :: u91 :: u92 :: u93 :: u94 :: u95 :: u96 :: u97 :: u98 :: u99 :: u100 :: u101 :: u102 :: u103 :: u104 :: u105 :: u106 :: u107 :: u108 :: u109 :: u110 :: u111 :: u112 :: u113 :: u114 :: u115 :: u116 :: u117 :: u118 :: u119 :: u120 :: u121 :: u122 :: u123 :: u124 :: u125 :: u126 :: u127 :: u128 :: u129 :: u130 :: u131 :: .pointer (some ⟨p', 0, none⟩) :: .int .i64 mq :: .int .i64 mq :: .bool false :: .int .i64 1 :: .bool false :: .pointer (some ⟨p', 0, none⟩) :: .func (.func 46) #[] #[.pointer (some ⟨wc.heap.size + 1, 0, none⟩)] :: .int .i64 x.1 :: .int .i64 x.2 :: u142 :: u143 :: u144 :: u145 :: u146 :: u147 :: u148 :: u149 :: u150 :: u151 :: u152 :: u153 :: u154 :: u155 :: u156 :: u157 :: u158 :: u159 :: []), defers := [] })
          ?assign2 ?body2 ?done2 ?stop2)
        case own2 => exact fun pre A B row hs hg hr => ⟨hs.1.grown hg (fun j e _ => .inr (hr j e).1), hs.2.grown hg (fun e => by have := (hr _ e).1; omega)⟩
        case ownx2 => exact fun c pre A B row hs hg hr => hs
        case assign2 =>
          intro l x W K hK
          gi_wp2
          exact hK
        case stop2 => exact fun D c pre W hD hpos hs hK => hs.elim
        case body2 =>
          rintro l pre x W hl ⟨r, hrr⟩ ⟨hM, h3⟩ ⟨post, hpost⟩
          obtain ⟨j2, s, hj2, hs, hf, hx, hpre⟩ := allTo_at _ (1 + q) _ post x hpost
          obtain ⟨x1, x2⟩ := x
          obtain ⟨hx1, hx2⟩ : x1 = hOf s.age j2 ∧ x2 = s.what := by simp only [Prod.mk.injEq] at hx; exact hx
          have hag := hqages.out s (List.mem_of_getElem? hs)
          have h64 : In64 x1 := by
            have := hag.2.2 hf
            rw [hx1]; unfold In64 hOf; constructor <;> omega
          have hget := get_full (j := j2) (by omega) hag.1 hs hf
          rw [← hx1, ← hx2] at hget
          have hlt : pre.length < 1 + q := by
            have e1 := allTo_mono (laid sl1 (1 + q)) j2 (1 + q) (by omega)
            have e2 := allTo_mono (laid sl1 (1 + q)) (j2 + 1) (1 + q) (by omega)
            have e3 : (allTo (laid sl1 (1 + q)) (j2 + 1)).length = pre.length + 1 := by simp [allTo, hs, hf, hpre]
            have e4 : (allTo (laid sl1 (1 + q)) (1 + q)).length = cnt (laid sl1 (1 + q)) := by
              have := allTo_all (laid sl1 (1 + q))
              rw [hqlen.out] at this
              exact this
            have e5 := cnt_le (laid sl1 (1 + q))
            have e6 := hqlen.out
            omega
          have b10 := (v10.mod hM (by omega)).cell 0
          have b3 := h3.cell 0
          have f3 := h3.frozen 0
          simp only [List.getElem?_cons_zero] at b10 b3
          have hc1 : CallsIn (Fence.wide.inRound l) 0 Try.prog 19 _ _ _ := (callsIn_wide (n := 0)).2 (get_any x1 p' tb (1 + q) _ _ W (hQ2.mod hM (by omega) (by omega)) h64)
          rw [hget] at hc1
          have hxx : (x2 != x2) = false := by simp
          clear hs hf hpre hpost hx hx1 hx2 hag hget
          gi_wp2_with fail
          refine ⟨trivial, hc1.mono ?_⟩
          rintro e W2 ⟨rfl, rfl⟩
          gi_wp2
          have hWs := hM.size
          refine ⟨KeepsOthers.setCell _ _ _, KeepB.mod (S := fun j => j = wc.heap.size) ((Mod.refl (fun j => j = wc.heap.size) _).setCell (p := ⟨wc.heap.size, 0, none⟩) (fun _ => rfl) _) (fun b hb => ?_), hM.setCell (fun _ => .inl rfl) _, ?_⟩
          · simp only [List.mem_cons, List.not_mem_nil, or_false] at hb
            rcases hb with rfl | rfl | rfl <;> omega
          · have := h3.set 0 (.int .i64 ((pre.length : Int) + 1))
            rw [List.length_append]
            simpa using this
        case done2 =>
          intro D2 W hD2 ⟨hM, h3⟩ hK
          have hcnt : (allTo (laid sl1 (1 + q)) (1 + q)).length = cnt (laid sl1 (1 + q)) := by
            have := allTo_all (laid sl1 (1 + q))
            rw [hqlen.out] at this
            exact this
          rw [hcnt, ← hmq.out] at h3
          have r0 := v0.mod hM (by omega)
          have i0 := r0.cell 0
          have j0 := r0.frozen 0
          have i3 := h3.cell 0
          simp only [List.getElem?_cons_zero] at i0 i3
          have hDW : W.heap[D]? = some (.deferred (some [])) := (hM.block D (by omega) (by
            rintro (rfl | h)
            · omega
            · omega)).trans hkd2
          have hqq : (mq != mq) = false := by simp
          gi_wp2
          go_wp2
          rw [rounds_succ]
          go_wp2
          have bW := belV2.trans (hM.below (B := w.heap.size) (by omega) (fun j h1 h2 => by omega))
          have bW2 := bW.setCell (p := ⟨w.heap.size, 0, none⟩) (by simp) (.bool true)
          have hDne : D ≠ w.heap.size := by omega
          have hK2 : (W.setCell ⟨w.heap.size, 0, none⟩ (.bool true)).heap[D2]? = some (.deferred (some [])) := by
            rw [Below.heap_setCell _ _ _ _ (by simp only; omega)]
            exact hK
          have hK3 : (W.setCell ⟨w.heap.size, 0, none⟩ (.bool true)).heap[D]? = some (.deferred (some [])) := by
            rw [Below.heap_setCell _ _ _ _ (by simp only; omega)]
            exact hDW
          have q0 := r0.set 0 (.bool true)
          generalize W.setCell ⟨w.heap.size, 0, none⟩ (.bool true) = U at hK2 hK3 q0 bW2
          have m1 : Mod (fun j => j = D2) U (U.putObj D2 (.deferred none)) := (Mod.refl _ _).putObj D2 _ (fun _ => rfl)
          have hUD := (Array.getElem?_eq_some_iff.1 hK3).1
          have hK4 : (U.putObj D2 (.deferred none)).heap[D]? = some (.deferred (some [])) := (m1.block D hUD (by omega)).trans hK3
          have m2 : Mod (fun j => j = D) (U.putObj D2 (.deferred none)) ((U.putObj D2 (.deferred none)).putObj D (.deferred none)) := (Mod.refl _ _).putObj D _ (fun _ => rfl)
          refine ⟨by simp, .inl ⟨_, _, rfl, run_takeDeferred hK2, ⟨by simp, .inl ⟨_, _, rfl, run_takeDeferred hK4, ?_⟩⟩⟩⟩
          have g2 := ((q0.mod m1 (by omega)).mod m2 (by omega)).cell 0
          simp only [List.set_cons_zero, List.getElem?_cons_zero] at g2
          refine ⟨.bool true, ?_, rfl, bW2.trans ((m1.below (B := w.heap.size) bW2.size (fun j h1 h2 => by omega)).trans (m2.below (B := w.heap.size) (Nat.le_trans bW2.size m1.size) (fun j h1 h2 => by omega)))⟩
          simp [results, Try.f9, go_sem, g2]
    case stop => exact fun D c pre W hD hpos hs hK => hs.elim
end Go.Proofs.Ytafljpfephomoaa
