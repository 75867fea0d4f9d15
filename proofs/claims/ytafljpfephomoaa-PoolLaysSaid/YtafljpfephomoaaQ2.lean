/- PoolOnce, walked. -/
import Derived.Test.YtafljpfephomoaaQ1
import Derived.Test.YtafljpfephomoaaOw
import Derived.Test.YtafljpfephomoaaP6
import Derived.Test.YtafljpfephomoaaA4
import Derived.Test.YtafljpfephomoaaK2
import Derived.Test.YtafljpfephomoaaR
import Derived.Deep.DeepCutAuto
import Derived.Deep.CutBlock
namespace Go.Proofs.Ytafljpfephomoaa
open Go.RowKit
theorem info38 : (Try.prog.info? 38).map (fun i => (i.zero, i.size, i.bytes)) = some (some (.int .i64 0), 1, 8) := by kernel_rfl
theorem PoolAt.drew {w : World} {p sb n : Nat} {sl : List Slot} {many : Int} (h : PoolAt w p sb n sl many) : PoolAt w.drew p sb n sl many := ⟨h.len, h.head, h.slots, h.ne, h.room, h.ages, h.many⟩
theorem steps_get {ss : List Stp} {k : Nat} (h : k < ss.length) (j : Nat) (hj : j < 4) : (ss.flatMap encStp)[k * 4 + j]? = (encStp (ss[k]?.getD default))[j]? := by
  exact flat_get (f := encStp) (sz := 4) (fun _ => rfl) ss k j _ (by rw [List.getElem?_eq_getElem h]; rfl) hj
theorem Once.in64 {n d : Nat} {sl : List Slot} {told what : List Int} {there : List Bool} (h : Once n d sl told what there) (hd : d ≤ 1000) {k : Nat} (hk : k < told.length) : In64 (told[k]?.getD 0) := by
  have e : told[k]? = some told[k] := List.getElem?_eq_getElem hk
  obtain ⟨a, j, s, e1, hj, ha, hs, h4⟩ := h.each k _ e
  have hag := h.ages s (List.mem_of_getElem? hs)
  have hn := h.room
  rw [e, Option.getD_some, e1]
  unfold In64 hOf
  rcases h4 with ⟨_, _, h7, _⟩ | ⟨_, h6⟩ <;> constructor <;> omega
set_option maxRecDepth 100000 in
set_option maxHeartbeats 8000000 in
theorem once_any (room : Int) (sv : Value) (m : Nat) (ss : List Stp) (hm : ss.length = m) (hg : ∀ s ∈ ss, s.good) (w : World) (hroom : In64 room) (hr : Rd w sv m 4 (ss.flatMap encStp)) :
    Calls Try.prog 4 #[.int .i64 room, sv] w fun e w' => e = .returned (.bool true) ∧ Below w.heap.size w w' := by
  obtain ⟨sa, sc, rfl⟩ : ∃ a c, sv = .slice a m c := by obtain ⟨a, c, h, _⟩ := hr; exact ⟨a, c, h⟩
  have Hm := Lib.hid hm; clear hm
  obtain ⟨r1, r2⟩ := hroom
  obtain ⟨t1, t2⟩ := pickN_range (c := room) (n := 20) (by omega)
  obtain ⟨q, hq⟩ : ∃ q : Nat, pickN room 20 = (q : Int) := ⟨(pickN room 20).toNat, by omega⟩
  rw [hq] at t1 t2
  have Hq := Lib.hid hq
  clear hq
  go_enter Try.func4, Try.ntmps4
  go_wp2_with fail
  refine (awake3_any _).mono ?_
  rintro e w1 ⟨rfl, B1⟩
  go_wp2_with fail
  refine (pick3_any room 20 w1 r1 r2 (by decide) (by decide)).mono ?_
  rintro e w1' ⟨rfl, rfl⟩
  rw [Hq.out]
  go_wp2_with fail
  refine (new_ok _ (1 + q) (by simp) w1 (by omega) (by omega)).mono ?_
  rintro e w2 ⟨p, sb, rfl, hp2, B2, hl1, hl2⟩
  have B12 := B1.trans (B2.mono B1.size)
  have hz1 := B1.size
  have hz2 := B12.size
  have hps : p < w2.heap.size ∧ sb < w2.heap.size := ⟨hp2.head.lt, hp2.slots.lt⟩
  go_wp2_with fail
  go_loopw [8, 9, 10, 11, 12] (fun t wh th lv i wr => ∃ (k : Nat) (sl : List Slot) (told what : List Int) (there : List Bool) (many : Int), k ≤ m ∧ k ≤ 200 ∧ told.length ≤ k ∧ i = .int .i64 k ∧ lv = .int .i64 many ∧ PoolAt wr p sb (1 + q) sl many ∧ Once (1 + q) k sl told what there ∧ wr.ownsRow w2.heap.size 38 1 t told.length (ints told) ∧ wr.ownsRow w2.heap.size 3 1 wh told.length (ints what) ∧ wr.ownsRow w2.heap.size 4 1 th told.length (bools there) ∧ Mod (fun j => j = p ∨ j = sb ∨ w2.heap.size ≤ j) w2 wr) (fun _ _ _ _ i _ => 200 - (intOf i).toNat)
  case atStart =>
    exact ⟨0, _, [], [], [], 0, Nat.zero_le _, Nat.zero_le _, Nat.le_refl _, rfl, rfl, hp2, Once.start _ (by omega), World.ownsRow_nil _ _ _ _, World.ownsRow_nil _ _ _ _, World.ownsRow_nil _ _ _ _, Mod.refl _ _⟩
  case round =>
    obtain ⟨k, sl, told, what, there, many, hk, hk2, htk, rfl, rfl, hP, hO, o1, o2, o3, hM⟩ := hrel
    have hmB := hP.manyB
    rcases (show (k < m ∧ k < 200) ∨ ¬ k < m ∨ (k < m ∧ ¬ k < 200) by omega) with ⟨hlt, hlt2⟩ | hlt | ⟨hlt, hlt2⟩
    · have mW : Mod (fun j => w.heap.size ≤ j) w wr := (Mod.of_below B12 (fun j h _ => h)).trans (hM.mono (fun j _ h => by rcases h with rfl | rfl | h <;> omega))
      obtain ⟨lb, lo, rfl⟩ := hr.addr (by omega)
      have hrR := hr.same mW.size (fun b _ hlt' => mW.block b hlt' (by omega))
      have hkl : k < ss.length := by rw [Hm.out]; exact hlt
      obtain ⟨st, hst⟩ : ∃ st, st = ss[k]?.getD default := ⟨_, rfl⟩
      have hgood := hg st (by rw [hst, List.getElem?_eq_getElem hkl]; exact List.getElem_mem hkl)
      have g0 := hrR.at (i := k * 4 + 0) (by omega)
      have g1 := hrR.at (i := k * 4 + 1) (by omega)
      have g2 := hrR.at (i := k * 4 + 2) (by omega)
      have g3 := hrR.at (i := k * 4 + 3) (by omega)
      rw [steps_get hkl _ (by decide), ← hst, ← Nat.add_assoc] at g0 g1 g2 g3
      simp only [encStp, List.getElem?_cons_zero, List.getElem?_cons_succ, Nat.add_zero] at g0 g1 g2 g3
      obtain ⟨sw, sn, sx, near⟩ := st
      obtain ⟨⟨w1', w2'⟩, ⟨n1', n2'⟩, x1', x2'⟩ := hgood
      simp only at g0 g1 g2 g3 w1' w2' n1' n2' x1' x2'
      have hltI : (k : Int) < 200 := by omega
      clear hst hrR
      go_wp2_with fail
      refine (pick3_any sw 2 _ w1' w2' (by decide) (by decide)).mono ?_
      rintro e w5 ⟨rfl, rfl⟩
      go_upto_if 57 with (fail)
      go_cut [8, 9, 10, 11, 14, 15, 16, 17] from 54 to 130 (fun t wh th lv _ _ _ _ wx => ∃ (sl : List Slot) (told what : List Int) (there : List Bool) (many : Int), told.length ≤ k + 1 ∧ lv = .int .i64 many ∧ PoolAt wx p sb (1 + q) sl many ∧ Once (1 + q) (k + 1) sl told what there ∧ wx.ownsRow w2.heap.size 38 1 t told.length (ints told) ∧ wx.ownsRow w2.heap.size 3 1 wh told.length (ints what) ∧ wx.ownsRow w2.heap.size 4 1 th told.length (bools there) ∧ Mod (fun j => j = p ∨ j = sb ∨ w2.heap.size ≤ j) w2 wx)
      case first =>
        obtain ⟨ta, tc, rfl, htc1, htc2⟩ := (Rd.of_own o1).shape
        obtain ⟨wa, wc2, rfl, hwc1, hwc2⟩ := (Rd.of_own o2).shape
        obtain ⟨ha, hc, rfl, hhc1, hhc2⟩ := (Rd.of_own o3).shape
        have hwz := hM.size
        have bel0 : Below wr.heap.size wr (wr.alloc (.cells #[.int .i64 sw, .int .i64 sn, .int .i64 sx, .bool near] 37)) := (Below.refl _ _).alloc (Nat.le_refl _) _
        have bs : Blk (wr.alloc (.cells #[.int .i64 sw, .int .i64 sn, .int .i64 sx, .bool near] 37)) wr.heap.size 37 [.int .i64 sw, .int .i64 sn, .int .i64 sx, .bool near] := Blk.new wr 37 [_, _, _, _]
        have a1 := own_new o1 bel0
        have a2 := own_new o2 bel0
        have a3 := own_new o3 bel0
        have hP0 := hP.below bel0 hP.head.lt hP.slots.lt
        have hM0 := hM.alloc (.cells #[.int .i64 sw, .int .i64 sn, .int .i64 sx, .bool near] 37)
        have hsz0 : w2.heap.size ≤ (wr.alloc (.cells #[.int .i64 sw, .int .i64 sn, .int .i64 sx, .bool near] 37)).heap.size := by simp; omega
        have hPl : ∀ j, w2.heap.size ≤ j → ¬ Pl p sb j := fun j h e => by rcases e with rfl | rfl <;> omega
        have hPm : ∀ j, j < w2.heap.size → Pl p sb j → (j = p ∨ j = sb ∨ w2.heap.size ≤ j) := fun j _ e => by rcases e with rfl | rfl <;> simp
        generalize hWa : wr.alloc (.cells #[.int .i64 sw, .int .i64 sn, .int .i64 sx, .bool near] 37) = wa0 at *
        have c0 := bs.cell 0
        have c1 := bs.cell 1
        have c2 := bs.cell 2
        simp only [List.getElem?_cons_zero, List.getElem?_cons_succ] at c0 c1 c2
        have hcm := hP0.many
        have Hcm := Lib.hid hcm
        clear hcm
        obtain ⟨T, hT⟩ : ∃ T, T = told.length := ⟨_, rfl⟩
        rw [← hT] at a1 a2 a3 o1 o2 o3 htk htc1 hwc1 hhc1 ⊢
        have HT := Lib.hid hT
        clear hT
        by_cases h0 : pickN sw 2 = 0
        · have e0 : (pickN sw 2 == 0) = true := by simp [h0]
          cases hpn : putN sl (1 + q) with
          | none =>
            have hcnt := (put_none_iff hO.len hO.ages (by omega)).1 hpn
            have hmq : ¬ many < 1 + (q : Int) := by have := Hcm.out; omega
            clear hcnt
            have Hpn := Lib.hid hpn
            clear hpn h0
            go_wp2_with fail
            refine (put_no sx p sb _ _ _ _ hP0 Hpn.out).mono ?_
            rintro e w6 ⟨rfl, hP6, hM6⟩
            go_wp2_with fail
            go_loopw [16] (fun v wy => ∃ j : Nat, j ≤ T ∧ v = .int .i64 j ∧ wy = w6) (fun v _ => T - (intOf v).toNat)
            case atStart => exact ⟨0, Nat.zero_le _, rfl, rfl⟩
            case round =>
              obtain ⟨j, hj, rfl, rfl⟩ := hrel
              by_cases hjl : j < T
              · go_wp2
                exact ⟨⟨j + 1, by omega, by simp, trivial⟩, by simp [intOf]; omega⟩
              · obtain rfl : j = T := by omega
                go_wp2_with fail
                go_meet
                exact ⟨sl, told, what, there, many, by have := HT.out; omega, rfl, hP6, hO.later (by omega), by rw [← HT.out]; exact own_mod a1 hM6 (fun j h _ => hPl j h), by rw [← HT.out]; exact own_mod a2 hM6 (fun j h _ => hPl j h), by rw [← HT.out]; exact own_mod a3 hM6 (fun j h _ => hPl j h), hM0.trans (hM6.mono (fun j _ e => by rcases e with rfl | rfl <;> simp))⟩
          | some j0 =>
            obtain ⟨hj0, s0, hs0, hf0⟩ := put_some_spec hpn
            obtain ⟨hnew, hO'⟩ := hO.put hs0 hf0 sx
            have hmq : many < 1 + (q : Int) := by
              have h1 : cnt sl < 1 + q := by
                apply Classical.byContradiction
                intro hc
                rw [(put_none_iff hO.len hO.ages (by omega)).2 hc] at hpn
                cases hpn
              have := Hcm.out
              omega
            have Hpn := Lib.hid hpn
            have Hs0 := Lib.hid hs0
            clear hpn h0 hs0 hf0
            go_wp2_with fail
            refine (put_yes sx p sb _ j0 _ _ _ hP0 s0 Hs0.out Hpn.out (hOf s0.age j0) rfl).mono ?_
            rintro e w6 ⟨rfl, hP6, hM6⟩
            generalize hOf s0.age j0 = H at *
            have b1 := own_mod a1 hM6 (fun j h _ => hPl j h)
            have b2 := own_mod a2 hM6 (fun j h _ => hPl j h)
            have b3 := own_mod a3 hM6 (fun j h _ => hPl j h)
            have bs6 := bs.mod hM6 (hPl _ hwz)
            have hM6' := hM0.trans (hM6.mono (fun j _ e => by rcases e with rfl | rfl <;> simp))
            have hw6 := hM6'.size
            have q1 := Rd.of_own b1
            clear a1 a2 a3 o1 o2 o3 hP0 hM0 hM hP hO
            go_wp2_with fail
            go_loopw [16] (fun v wy => ∃ j : Nat, j ≤ T ∧ v = .int .i64 j ∧ wy = w6) (fun v _ => T - (intOf v).toNat)
            case atStart => exact ⟨0, Nat.zero_le _, rfl, rfl⟩
            case round =>
              obtain ⟨j, hj, rfl, rfl⟩ := hrel
              by_cases hjl : j < T
              · obtain ⟨tb, tof, rfl⟩ := q1.addr (by omega)
                have v1 := q1.int HT.out.symm hjl
                have e1 : (told[j]?.getD 0 == H) = false := by
                  have := hnew j (by rw [← HT.out]; exact hjl)
                  simpa using this
                go_wp2
                exact ⟨⟨j + 1, by omega, by simp, trivial⟩, by simp [intOf]; omega⟩
              · obtain rfl : j = T := by omega
                obtain ⟨i38, hi38, hza, hzb, hzc⟩ := info_parts info38
                obtain ⟨i3, hi3, hz3a, hz3b, hz3c⟩ := info_parts info3
                obtain ⟨i4, hi4, hz4a, hz4b, hz4c⟩ := info_parts info4
                have p6 := hP6
                have m6 := hM6'
                have hw6' := hM6'.size
                go_wp2_with (at_builtin; first
                  | (refine wpList_append_own _ rfl _ _ 34 rfl w2.heap.size 38 i38 (.int .i64 0) 1 8 Try.underlying34 hi38 hza hzb hzc rfl (by decide) _ _ _ rfl (b1.alloc _) ⟨wr.heap.size, 0, none⟩ 1 1 [.int .i64 H] rfl rfl (World.news_of_block (cs := #[.int .i64 H]) (t := 38) (fr := (0, 0)) (heap_alloc_new wr _)) (by simp [Value.oneCell']) (by unfold maxLen; omega) (by omega) (by simp; omega) ?_
                     intro v7 w7 b17 hg7 _
                     have bs7 := blk_grown (bs6.alloc _) (b1.alloc _) (by decide) hg7
                     have c7 := bs7.cell 2
                     simp only [List.getElem?_cons_zero, List.getElem?_cons_succ] at c7
                     have b27 := own_grown (b2.alloc _) (b1.alloc _) (by decide) hg7
                     have b37 := own_grown (b3.alloc _) (b1.alloc _) (by decide) hg7
                     have p7 := (p6.below ((Below.refl _ wr).alloc (Nat.le_refl _) (.cells #[.int .i64 H] 38)) p6.head.lt p6.slots.lt).grownFrom hg7 (fun r e => ownBlock_ge b1 e) hps.1 hps.2
                     have m7 := (m6.alloc (.cells #[.int .i64 H] 38)).grown hg7 (fun r e _ => .inr (.inr (ownBlock_ge b1 e)))
                     have hw7 := m7.size)
                  | (refine wpList_append_own _ rfl _ _ 26 rfl w2.heap.size 3 i3 (.int .i64 0) 1 8 Try.underlying26 hi3 hz3a hz3b hz3c rfl (by decide) _ _ _ rfl (b27.alloc _) ⟨w7.heap.size, 0, none⟩ 1 1 [.int .i64 sx] rfl rfl (World.news_of_block (cs := #[.int .i64 sx]) (t := 3) (fr := (0, 0)) (heap_alloc_new w7 _)) (by simp [Value.oneCell']) (by unfold maxLen; omega) (by omega) (by simp; omega) ?_
                     intro v8 w8 b28 hg8 _
                     have b18 := own_grown (b17.alloc _) (b27.alloc _) (by decide) hg8
                     have b38 := own_grown (b37.alloc _) (b27.alloc _) (by decide) hg8
                     have p8 := (p7.below ((Below.refl _ w7).alloc (Nat.le_refl _) (.cells #[.int .i64 sx] 3)) p7.head.lt p7.slots.lt).grownFrom hg8 (fun r e => ownBlock_ge b27 e) hps.1 hps.2
                     have m8 := (m7.alloc (.cells #[.int .i64 sx] 3)).grown hg8 (fun r e _ => .inr (.inr (ownBlock_ge b27 e)))
                     have hw8 := m8.size)
                  | (refine wpList_append_own _ rfl _ _ 35 rfl w2.heap.size 4 i4 (.bool false) 1 1 Try.underlying35 hi4 hz4a hz4b hz4c rfl (by decide) _ _ _ rfl (b38.alloc _) ⟨w8.heap.size, 0, none⟩ 1 1 [.bool true] rfl rfl (World.news_of_block (cs := #[.bool true]) (t := 4) (fr := (0, 0)) (heap_alloc_new w8 _)) (by simp [Value.oneCell']) (by unfold maxLen; omega) (by omega) (by simp; omega) ?_
                     intro v9 w9 b39 hg9 _
                     have b19 := own_grown (b18.alloc _) (b38.alloc _) (by decide) hg9
                     have b29 := own_grown (b28.alloc _) (b38.alloc _) (by decide) hg9
                     have p9 := (p8.below ((Below.refl _ w8).alloc (Nat.le_refl _) (.cells #[.bool true] 4)) p8.head.lt p8.slots.lt).grownFrom hg9 (fun r e => ownBlock_ge b38 e) hps.1 hps.2
                     have m9 := (m8.alloc (.cells #[.bool true] 4)).grown hg9 (fun r e _ => .inr (.inr (ownBlock_ge b38 e)))))
                go_meet
                have hl : (told ++ [H]).length = j + 1 := by rw [List.length_append, ← HT.out]; rfl
                exact ⟨_, told ++ [H], what ++ [sx], there ++ [true], many + 1, by omega, rfl, p9, hO', by rw [hl]; simpa [ints] using b19, by rw [hl]; simpa [ints] using b29, by rw [hl]; simpa [bools] using b39, m9⟩
        · have e0 : (pickN sw 2 == 0) = false := by simpa using h0
          clear h0
          by_cases hT0 : T = 0
          · have hTn : ¬ 0 < T := by omega
            have HT0 := Lib.hid hT0
            clear hT0
            go_wp2_with fail
            go_meet
            exact ⟨sl, told, what, there, many, by have := HT.out; omega, rfl, hP0, hO.later (by omega), by rw [← HT.out]; exact a1, by rw [← HT.out]; exact a2, by rw [← HT.out]; exact a3, hM0⟩
          · obtain ⟨u1, u2⟩ := pickN_range (c := sn) (n := (T : Int)) (by omega)
            obtain ⟨k2, hk2⟩ : ∃ k2 : Nat, pickN sn (T : Int) = (k2 : Int) := ⟨(pickN sn T).toNat, by omega⟩
            rw [hk2] at u1 u2
            have Hk2 := Lib.hid hk2
            clear hk2
            obtain ⟨tb, tc', e1⟩ := own_shape a1 hT0
            obtain ⟨hb, hc', e3⟩ := own_shape a3 hT0
            simp only [Value.slice.injEq, true_and] at e1 e3
            obtain ⟨rfl, rfl⟩ := e1
            obtain ⟨rfl, rfl⟩ := e3
            have hT1 : 0 < T := by omega
            have v1 := (Rd.of_own a1).int HT.out.symm (i := k2) (by omega)
            have v3 := (Rd.of_own a3).bool (by rw [hO.lt]; exact HT.out.symm) (i := k2) (by omega)
            rw [Nat.zero_add] at v1 v3
            have h64 := hO.in64 (by omega) (k := k2) (by have := HT.out; omega)
            have htb := own_lt a1 (r := tb) rfl
            have hhb := own_lt a3 (r := hb) rfl
            have htb2 := ownBlock_ge a1 (r := tb) rfl
            have hhb2 := ownBlock_ge a3 (r := hb) rfl
            go_wp2_with fail
            refine (pick3_any sn T _ n1' n2' (by omega) (by omega)).mono ?_
            rintro e w6 ⟨rfl, rfl⟩
            rw [Hk2.out]
            go_upto_region 30 with (fail)
            rcases hO.at (k := k2) (by have := HT.out; omega) with ⟨hth, hat⟩ | ⟨hth, j0, s0, hat, hs0, hf0, hh0⟩
            · rw [hth] at v3
              have Hhat := Lib.hid hat
              have Hth := Lib.hid hth
              clear hat hth
              have f3 := own_frozen a3 k2
              go_region_held3 (fun wx => wx.cell? ⟨tb, k2, none⟩ = some (.int .i64 (told[k2]?.getD 0)) ∧ wx.cell? ⟨hb, k2, none⟩ = some (.bool false)) (go_keep)
                ((go_at_call 18; refine (drop_none _ p sb _ _ _ _ hP0.drew h64 Hhat.out).mono ?_; rintro e wm ⟨rfl, rfl⟩))
              go_wp2_with fail
              go_meet
              have hset := hO.gone (k := k2) (by have := HT.out; omega) Hth.out
              exact ⟨sl, told, what, there, many, by have := HT.out; omega, rfl, (hP0.mod (S := fun j => j = hb) ((Mod.refl (fun j => j = hb) _).setCell (p := ⟨hb, k2, none⟩) (fun _ => rfl) _) (by omega) (by omega)).drew, hO.later (by omega),
                by rw [← HT.out]; exact own_new (ownsRow_setCell_other (a := ⟨hb, k2, none⟩) a1 (own_other a1 a3 (by decide) rfl) _) ((Below.refl _ _).drew), by rw [← HT.out]; exact own_new (ownsRow_setCell_other (a := ⟨hb, k2, none⟩) a2 (own_other a2 a3 (by decide) rfl) _) ((Below.refl _ _).drew),
                by
                  have := own_set a3 (k := k2) (by omega) (.bool false)
                  rw [bools_set, hset] at this
                  rw [← HT.out]
                  exact own_new this ((Below.refl _ _).drew), (hM0.setCell (p := ⟨hb, k2, none⟩) (fun _ => .inr (.inr hhb2)) _).drew⟩
            · rw [hth] at v3
              have Hhat := Lib.hid hat
              have Hth := Lib.hid hth
              have Hs0 := Lib.hid hs0
              have Hh0 := Lib.hid hh0
              clear hat hth hs0 hh0 hf0
              go_region_held3 (fun wx => wx.cell? ⟨tb, k2, none⟩ = some (.int .i64 (told[k2]?.getD 0)) ∧ wx.cell? ⟨hb, k2, none⟩ = some (.bool true))
                (first | go_keep | exact ⟨(hM7.cell (p := ⟨tb, k2, none⟩) htb (hPl _ htb2)).trans v1, (hM7.cell (p := ⟨hb, k2, none⟩) hhb (hPl _ hhb2)).trans v3⟩)
                ((go_at_call 18; refine (drop_some _ p sb _ j0 _ _ _ hP0.drew h64 s0 Hhat.out Hs0.out).mono ?_; rintro e w7 ⟨rfl, hP7, hM7⟩))
              have v37 := (hM7.cell (p := ⟨hb, k2, none⟩) hhb (hPl _ hhb2)).trans v3
              have d1 := own_mod (own_new a1 ((Below.refl _ wa0).drew)) hM7 (fun j h _ => hPl j h)
              have d2 := own_mod (own_new a2 ((Below.refl _ wa0).drew)) hM7 (fun j h _ => hPl j h)
              have d3 := own_mod (own_new a3 ((Below.refl _ wa0).drew)) hM7 (fun j h _ => hPl j h)
              have f37 := own_frozen d3 k2
              go_wp2_with fail
              go_meet
              exact ⟨_, told, what, there.set k2 false, many - 1, by have := HT.out; omega, rfl, hP7.mod (S := fun j => j = hb) ((Mod.refl (fun j => j = hb) _).setCell (p := ⟨hb, k2, none⟩) (fun _ => rfl) _) (by omega) (by omega), hO.drop (k := k2) (by have := HT.out; omega) Hs0.out Hh0.out,
                by rw [← HT.out]; exact ownsRow_setCell_other (a := ⟨hb, k2, none⟩) d1 (own_other d1 d3 (by decide) rfl) _, by rw [← HT.out]; exact ownsRow_setCell_other (a := ⟨hb, k2, none⟩) d2 (own_other d2 d3 (by decide) rfl) _,
                by
                  have := own_set d3 (k := k2) (by omega) (.bool false)
                  rw [bools_set] at this
                  rw [← HT.out]
                  exact this, (hM0.drew.trans (hM7.mono (fun j _ e => by rcases e with rfl | rfl <;> simp))).setCell (p := ⟨hb, k2, none⟩) (fun _ => .inr (.inr hhb2)) _⟩
      case rest =>
        clear hP hO o1 o2 o3 hM mW g0 g1 g2 g3
        obtain ⟨sl, told, what, there, many, htk, rfl, hP, hO, o1, o2, o3, hM⟩ := hcut
        have q1 := Rd.of_own o1
        have q2 := Rd.of_own o2
        have q3 := Rd.of_own o3
        obtain ⟨ta, tc, rfl, htc1, htc2⟩ := q1.shape
        obtain ⟨wa, wc2, rfl, hwc1, hwc2⟩ := q2.shape
        obtain ⟨ha, hc, rfl, hhc1, hhc2⟩ := q3.shape
        obtain ⟨T, hT⟩ : ∃ T, T = told.length := ⟨_, rfl⟩
        rw [← hT] at q1 q2 q3 o1 o2 o3 htk htc1 hwc1 hhc1 ⊢
        have HT := Lib.hid hT
        clear hT
        go_wp2_with fail
        go_loopw [18] (fun v wy => ∃ j : Nat, j ≤ T ∧ v = .int .i64 j ∧ wy = wc) (fun v _ => T - (intOf v).toNat)
        case atStart => exact ⟨0, Nat.zero_le _, rfl, rfl⟩
        case round =>
          obtain ⟨j, hj, rfl, rfl⟩ := hrel
          by_cases hjl : j < T
          · obtain ⟨tb, tof, rfl⟩ := q1.addr (by omega)
            obtain ⟨wb, wof, rfl⟩ := q2.addr (by omega)
            obtain ⟨hb, hof, rfl⟩ := q3.addr (by omega)
            have v1 := q1.int HT.out.symm hjl
            have v2 := q2.int (by rw [hO.lw]; exact HT.out.symm) hjl
            have v3 := q3.bool (by rw [hO.lt]; exact HT.out.symm) hjl
            have hget := hO.get (k := j) (by have := HT.out; omega)
            have h64 : In64 (told[j]?.getD 0) := hO.in64 (by omega) (by have := HT.out; omega)
            go_wp2_with fail
            refine (get_any _ p sb _ _ _ _ hP h64).mono ?_
            rintro e w6 ⟨rfl, rfl⟩
            rw [hget]
            cases hth : there[j]?.getD false with
            | true =>
              rw [hth] at v3
              have e1 : (what[j]?.getD 0 != what[j]?.getD 0) = false := by simp
              simp only [if_true]
              clear hth hget
              go_wp2
              exact ⟨⟨j + 1, by omega, by simp, trivial⟩, by simp [intOf]; omega⟩
            | false =>
              rw [hth] at v3
              simp only [Bool.false_eq_true, if_false]
              clear hth hget
              go_wp2
              exact ⟨⟨j + 1, by omega, by simp, trivial⟩, by simp [intOf]; omega⟩
          · obtain rfl : j = T := by omega
            go_wp2
            exact ⟨⟨k + 1, sl, told, what, there, many, by omega, by omega, by have := HT.out; omega, by simp, rfl, hP, hO, by rw [← HT.out]; exact o1, by rw [← HT.out]; exact o2, by rw [← HT.out]; exact o3, hM⟩, by simp [intOf]; omega⟩
    all_goals
      go_wp2_with fail
      refine (len_any p sb _ _ _ _ hP).mono ?_
      rintro e w9 ⟨rfl, rfl⟩
      go_wp2
      go_ret
      exact ⟨by simp, B12.trans (hM.below (B := w.heap.size) (by omega) (fun j h e => by rcases e with rfl | rfl | e <;> omega))⟩
end Go.Proofs.Ytafljpfephomoaa
