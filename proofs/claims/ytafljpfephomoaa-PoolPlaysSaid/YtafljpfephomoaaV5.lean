/- PoolPlays, walked. -/
import Derived.Test.YtafljpfephomoaaV4
import Derived.Test.YtafljpfephomoaaK2
import Derived.Deep.DeepCutAuto
import Derived.Deep.CutBlock
import Derived.Test.YtafljpfephomoaaU8
namespace Go.Proofs.Ytafljpfephomoaa
open Go.RowKit
theorem steps_get {ss : List Stp} {k : Nat} (h : k < ss.length) (j : Nat) (hj : j < 4) : (ss.flatMap encStp)[k * 4 + j]? = (encStp (ss[k]?.getD default))[j]? := by
  exact flat_get (f := encStp) (sz := 4) (fun _ => rfl) ss k j _ (by rw [List.getElem?_eq_getElem h]; rfl) hj
theorem own_keep {w w' : World} {base e : Nat} {v : Value} {n sz : Nat} {xs : List Value} (h : w.ownsRow base e sz v n xs) (hb : ∀ g cur, v.ownBlock = some g → w.heap[g]? = some (.cells cur e (0, 0)) → w'.heap[g]? = w.heap[g]?) : w'.ownsRow base e sz v n xs := by
  obtain ⟨h1, h2⟩ := h
  rcases h2 with ⟨rfl, rfl⟩ | ⟨g, cap, cur, rfl, hgb, hh, r⟩
  · exact ⟨h1, .inl ⟨rfl, rfl⟩⟩
  · exact ⟨h1, .inr ⟨g, cap, cur, rfl, hgb, by rw [hb g cur rfl hh]; exact hh, r⟩⟩
theorem blk_ne_cells {w : World} {b g : Nat} {t u : TypeId} {xs : List Value} {cur : Array Value} (h : Blk w b t xs) (k : w.heap[g]? = some (.cells cur u (0, 0))) (htu : t ≠ u) : g ≠ b := by
  rintro rfl
  unfold Blk at h
  rw [h] at k
  simp at k
  exact htu k.2
/-- The two pools and the handles that were told. -/
structure PE (w : World) (pp sb n cp : Nat) (ex : List Value) (sl : List Slot) (many : Int) (r rb : Nat) (sl2 : List Slot) (tv : Value) (told : List Int) (W : World) : Prop where
  hp : PoolAt W pp sb n cp ex sl many
  hr : RefAt W r rb n sl2
  o : W.ownsRow w.heap.size 3 1 tv told.length (ints told)
  i64 : ∀ h ∈ told, In64 h
  bel : Below w.heap.size w W
  lo : w.heap.size ≤ pp ∧ w.heap.size ≤ sb ∧ w.heap.size ≤ r ∧ w.heap.size ≤ rb
variable {w : World} {pp sb n cp r rb : Nat} {ex : List Value} {sl sl' sl2 : List Slot} {many many' : Int} {tv tv' : Value} {told : List Int} {W W' : World}
theorem PE.pool (h : PE w pp sb n cp ex sl many r rb sl2 tv told W) (hM : Mod (Pl pp sb) W W') (hP : PoolAt W' pp sb n cp ex sl' many') : PE w pp sb n cp ex sl' many' r rb sl2 tv told W' := by
  obtain ⟨l1, l2, l3, l4⟩ := h.lo
  have n1 : r ≠ pp := blk_type_ne h.hr.head h.hp.head (by decide)
  have n2 : r ≠ sb := blk_type_ne h.hr.head h.hp.slots (by decide)
  have n3 : rb ≠ pp := blk_type_ne h.hr.slots h.hp.head (by decide)
  have n4 : rb ≠ sb := blk_type_ne h.hr.slots h.hp.slots (by decide)
  refine ⟨hP, h.hr.mod hM (by unfold Pl; omega) (by unfold Pl; omega), own_keep h.o (fun g cur e hc => hM.block g (Array.getElem?_eq_some_iff.1 hc).1 ?_), h.i64, h.bel.trans (hM.below h.bel.size (fun j h1 h2 => by rcases h2 with rfl | rfl <;> omega)), h.lo⟩
  have m1 := blk_ne_cells h.hp.head hc (by decide)
  have m2 := blk_ne_cells h.hp.slots hc (by decide)
  unfold Pl; omega
theorem PE.ref (h : PE w pp sb n cp ex sl many r rb sl2 tv told W) (hM : Mod (Rl r rb) W W') (hP : RefAt W' r rb n sl') : PE w pp sb n cp ex sl many r rb sl' tv told W' := by
  obtain ⟨l1, l2, l3, l4⟩ := h.lo
  have n1 : r ≠ pp := blk_type_ne h.hr.head h.hp.head (by decide)
  have n2 : r ≠ sb := blk_type_ne h.hr.head h.hp.slots (by decide)
  have n3 : rb ≠ pp := blk_type_ne h.hr.slots h.hp.head (by decide)
  have n4 : rb ≠ sb := blk_type_ne h.hr.slots h.hp.slots (by decide)
  refine ⟨h.hp.mod hM (by unfold Rl; omega) (by unfold Rl; omega), hP, own_keep h.o (fun g cur e hc => hM.block g (Array.getElem?_eq_some_iff.1 hc).1 ?_), h.i64, h.bel.trans (hM.below h.bel.size (fun j h1 h2 => by rcases h2 with rfl | rfl <;> omega)), h.lo⟩
  have m1 := blk_ne_cells h.hr.head hc (by decide)
  have m2 := blk_ne_cells h.hr.slots hc (by decide)
  unfold Rl; omega
theorem PE.new (h : PE w pp sb n cp ex sl many r rb sl2 tv told W) (hB : Below W.heap.size W W') : PE w pp sb n cp ex sl many r rb sl2 tv told W' :=
  ⟨h.hp.below hB h.hp.head.lt h.hp.slots.lt, h.hr.below hB h.hr.head.lt h.hr.slots.lt, own_new h.o hB, h.i64, h.bel.trans (hB.mono h.bel.size), h.lo⟩
theorem PE.swap {p' sb' cp' : Nat} {ex' : List Value} (h : PE w pp sb n cp ex sl many r rb sl2 tv told W) (hP : PoolAt W p' sb' n cp' ex' sl' many') (h1 : w.heap.size ≤ p') (h2 : w.heap.size ≤ sb') : PE w p' sb' n cp' ex' sl' many' r rb sl2 tv told W :=
  ⟨hP, h.hr, h.o, h.i64, h.bel, h1, h2, h.lo.2.2⟩
theorem PE.app (h : PE w pp sb n cp ex sl many r rb sl2 tv told W) {x : Obj} {v : Int} {row : Option Nat} (hg : (W.alloc x).grownBy W' row) (hrow : row = tv.ownBlock) (ho : W'.ownsRow w.heap.size 3 1 tv' (told.length + 1) (ints (told ++ [v]))) (hin : In64 v) : PE w pp sb n cp ex sl many r rb sl2 tv' (told ++ [v]) W' := by
  subst hrow
  have hs := h.bel.size
  have h1 := h.new ((Below.refl _ W).alloc (Nat.le_refl _) x)
  have hne : ∀ (b : Nat) (t : TypeId) (xs : List Value), Blk (W.alloc x) b t xs → t ≠ 3 → tv.ownBlock ≠ some b := by
    intro b t xs hb ht e
    rcases h1.o.2 with ⟨e1, _⟩ | ⟨g, cap, cur, e1, _, e2, _⟩
    · rw [e1] at e; simp [Value.ownBlock] at e
    · rw [e1] at e; simp [Value.ownBlock] at e; subst e
      exact blk_ne_cells hb e2 ht rfl
  refine ⟨⟨h1.hp.len, h1.hp.head.grown hg (hne _ _ _ h1.hp.head (by decide)), h1.hp.slots.grown hg (hne _ _ _ h1.hp.slots (by decide)), h1.hp.ne, h1.hp.room, h1.hp.ages, h1.hp.many, h1.hp.cap⟩,
    ⟨h1.hr.len, h1.hr.head.grown hg (hne _ _ _ h1.hr.head (by decide)), h1.hr.slots.grown hg (hne _ _ _ h1.hr.slots (by decide)), h1.hr.room, h1.hr.ages⟩, ?_, ?_, (h.bel.alloc hs _).grown hg (by simp; omega) (fun r e => ownBlock_ge h.o e), h.lo⟩
  · rw [List.length_append]; exact ho
  · intro y hy
    rcases List.mem_append.1 hy with hy | hy
    · exact h.i64 y hy
    · simp at hy; rw [hy]; exact hin
theorem PE.drew (h : PE w pp sb n cp ex sl many r rb sl2 tv told W) : PE w pp sb n cp ex sl many r rb sl2 tv told W.drew := h.new ((Below.refl _ _).drew)
/-- Another pool is turned. -/
theorem PE.old {po so cpo : Nat} {slo : List Slot} {eo : List Value} {mo : Int} (h : PE w pp sb n cp ex sl many r rb sl2 tv told W) (hO : PoolAt W po so n cpo eo slo mo) (h1 : pp ≠ po) (h2 : sb ≠ so) (h3 : w.heap.size ≤ po) (h4 : w.heap.size ≤ so) (hM : Mod (Pl po so) W W') : PE w pp sb n cp ex sl many r rb sl2 tv told W' := by
  have n1 : r ≠ po := blk_type_ne h.hr.head hO.head (by decide)
  have n2 : r ≠ so := blk_type_ne h.hr.head hO.slots (by decide)
  have n3 : rb ≠ po := blk_type_ne h.hr.slots hO.head (by decide)
  have n4 : rb ≠ so := blk_type_ne h.hr.slots hO.slots (by decide)
  have n5 : pp ≠ so := blk_type_ne h.hp.head hO.slots (by decide)
  have n6 : sb ≠ po := blk_type_ne h.hp.slots hO.head (by decide)
  refine ⟨h.hp.mod hM (by unfold Pl; omega) (by unfold Pl; omega), h.hr.mod hM (by unfold Pl; omega) (by unfold Pl; omega), own_keep h.o (fun g cur e hc => hM.block g (Array.getElem?_eq_some_iff.1 hc).1 ?_), h.i64, h.bel.trans (hM.below h.bel.size (fun j h1 h2 => by rcases h2 with rfl | rfl <;> omega)), h.lo⟩
  have m1 := blk_ne_cells hO.head hc (by decide)
  have m2 := blk_ne_cells hO.slots hc (by decide)
  unfold Pl; omega
theorem step_cell {b : Nat} {v0 v1 v2 v3 : Value} (h : Blk W b 37 [v0, v1, v2, v3]) : W.cell? ⟨b, 2, none⟩ = some v2 := by simpa using h.cell 2
theorem PE.stepP {b : Nat} {vs : List Value} (h : PE w pp sb n cp ex sl many r rb sl2 tv told W) (hb : Blk W b 37 vs) (hM : Mod (Pl pp sb) W W') : Blk W' b 37 vs :=
  hb.mod hM (by have m1 := blk_type_ne hb h.hp.head (by decide); have m2 := blk_type_ne hb h.hp.slots (by decide); unfold Pl; omega)
theorem PE.stepR {b : Nat} {vs : List Value} (h : PE w pp sb n cp ex sl many r rb sl2 tv told W) (hb : Blk W b 37 vs) (hM : Mod (Rl r rb) W W') : Blk W' b 37 vs :=
  hb.mod hM (by have m1 := blk_type_ne hb h.hr.head (by decide); have m2 := blk_type_ne hb h.hr.slots (by decide); unfold Rl; omega)
theorem refput_yes (x : Int) (r rb n k : Nat) (sl : List Slot) (w : World) (hp : RefAt w r rb n sl) (s : Slot) (hs : sl[k]? = some s) (hk : putN sl n = some k) (v : Int) (hv : s.age * 65536 + k + 1 = v) :
    Calls Try.prog 36 #[.pointer (some ⟨r, 0, none⟩), .int .i64 x] w fun e w' => e = .returned (.tuple #[.int .i64 v, .int .i64 0]) ∧ RefAt w' r rb n (sl.set k ⟨s.age, true, x⟩) ∧ Mod (Rl r rb) w w' := by
  refine (refput_any x r rb n sl w hp).mono ?_
  rintro e w' ⟨hm, ⟨h, _⟩ | ⟨k', s', hk', hs', rfl, hP⟩⟩
  · rw [hk] at h; cases h
  · rw [hk] at hk'
    obtain rfl := Option.some.inj hk'
    rw [hs] at hs'
    obtain rfl := Option.some.inj hs'
    exact ⟨by rw [hv], hP, hm⟩
theorem refput_no (x : Int) (r rb n : Nat) (sl : List Slot) (w : World) (hp : RefAt w r rb n sl) (hk : putN sl n = none) :
    Calls Try.prog 36 #[.pointer (some ⟨r, 0, none⟩), .int .i64 x] w fun e w' => e = .returned (.tuple #[.int .i64 0, .int .i64 30]) ∧ RefAt w' r rb n sl ∧ Mod (Rl r rb) w w' := by
  refine (refput_any x r rb n sl w hp).mono ?_
  rintro e w' ⟨hm, ⟨_, rfl, hP⟩ | ⟨k', s', hk', _⟩⟩
  · exact ⟨rfl, hP, hm⟩
  · rw [hk] at hk'; cases hk'
theorem hOf_in64 {w : World} {p sb n cp : Nat} {ex : List Value} {sl : List Slot} {many : Int} (hp : PoolAt w p sb n cp ex sl many) {j : Nat} {s : Slot} (hs : sl[j]? = some s) : In64 (hOf s.age j) := by
  obtain ⟨_, _, _, h1, h2, h3, _⟩ := hp.slot hs
  have h4 := hp.room
  unfold In64 hOf
  constructor <;> omega
set_option maxRecDepth 100000 in
set_option maxHeartbeats 8000000 in
theorem plays_any (room : Int) (sv : Value) (m : Nat) (ss : List Stp) (hm : ss.length = m) (hg : ∀ s ∈ ss, s.good) (w : World) (hr : Rd w sv m 4 (ss.flatMap encStp)) :
    Calls Try.prog 10 #[.int .i64 room, sv] w fun e w' => e = .returned (.bool true) ∧ Below w.heap.size w w' := by
  obtain ⟨sa, sc, rfl⟩ : ∃ a c, sv = .slice a m c := by obtain ⟨a, c, h, _⟩ := hr; exact ⟨a, c, h⟩
  have Hm := Lib.hid hm; clear hm
  by_cases hroom : room < 1 ∨ 1024 < room
  · go_enter Try.func10, Try.ntmps10
    go_wp2_with fail
    refine (awake3_any _).mono ?_
    rintro e w1 ⟨rfl, B1⟩
    go_wp2_with fail
    refine (new_bad room w1 hroom).mono ?_
    rintro e w1' ⟨rfl, rfl⟩
    go_wp2_with fail
    refine (refnew_bad room w1 hroom).mono ?_
    rintro e w1' ⟨rfl, rfl⟩
    go_wp2
    go_ret
    exact ⟨rfl, B1⟩
  · obtain ⟨n, rfl⟩ := Int.eq_ofNat_of_zero_le (show 0 ≤ room by omega)
    have hn1 : 1 ≤ n := by omega
    have hn2 : n ≤ 1024 := by omega
    clear hroom
    go_enter Try.func10, Try.ntmps10
    go_wp2_with fail
    refine (awake3_any _).mono ?_
    rintro e w1 ⟨rfl, B1⟩
    go_wp2_with fail
    refine (new_ok _ n rfl w1 hn1 hn2).mono ?_
    rintro e w2 ⟨p0, sb0, rfl, hp2, B2, hl1, hl2⟩
    go_wp2_with fail
    refine (refnew_ok _ n rfl w2 hn1 hn2).mono ?_
    rintro e w3 ⟨r, rb, rfl, hr3, B3, hl3, hl4⟩
    have hs1 := B1.size
    have hs2 := B2.size
    have hE : PE w p0 sb0 n n [] (List.replicate n noSlot) 0 r rb (List.replicate n noSlot) (.slice none 0 0) [] w3 :=
      ⟨hp2.below B3 hp2.head.lt hp2.slots.lt, hr3, World.ownsRow_nil _ _ _ _, fun h hh => by simp at hh, B1.trans ((B2.trans (B3.mono hs2)).mono hs1), by omega, by omega, by omega, by omega⟩
    clear hp2 hr3 B1 B2 B3
    go_wp2_with fail
    go_loopw [6, 10, 11] (fun pv tv i wr => ∃ (k pp sb cp : Nat) (ex : List Value) (sl : List Slot) (many : Int) (told : List Int), k ≤ m ∧ k ≤ 300 ∧ told.length ≤ k ∧ pv = .pointer (some ⟨pp, 0, none⟩) ∧ i = .int .i64 k ∧ PE w pp sb n cp ex sl many r rb sl tv told wr) (fun _ _ i _ => 300 - (intOf i).toNat)
    case atStart => exact ⟨0, _, _, _, _, _, _, _, Nat.zero_le _, Nat.zero_le _, Nat.le_refl _, rfl, rfl, hE⟩
    case round => as_aux_lemma =>
      clear hE
      obtain ⟨k, pp, sb, cp, ex, sl, many, told, hk, hk2, htk, rfl, rfl, hE⟩ := hrel
      rcases (show (k < m ∧ k < 300) ∨ ¬ k < m ∨ (k < m ∧ ¬ k < 300) by omega) with ⟨hlt, hlt2⟩ | hlt | ⟨hlt, hlt2⟩
      · obtain ⟨lb, lo, rfl⟩ := hr.addr (by omega)
        have hrR := hr.new hE.bel
        have hkl : k < ss.length := by rw [Hm.out]; exact hlt
        obtain ⟨st, hst⟩ : ∃ st, st = ss[k]?.getD default := ⟨_, rfl⟩
        have hgood := hg st (by rw [hst, List.getElem?_eq_getElem hkl]; exact List.getElem_mem hkl)
        have g0 := hrR.at (i := k * 4 + 0) (by omega)
        have g1 := hrR.at (i := k * 4 + 1) (by omega)
        have g2 := hrR.at (i := k * 4 + 2) (by omega)
        have g3 := hrR.at (i := k * 4 + 3) (by omega)
        rw [steps_get hkl _ (by decide), ← hst, ← Nat.add_assoc] at g0 g1 g2 g3
        simp only [encStp, List.getElem?_cons_zero, List.getElem?_cons_succ, Nat.add_zero] at g0 g1 g2 g3
        obtain ⟨sw, sn, sx, near⟩ := st
        obtain ⟨⟨w1', w2'⟩, ⟨n1', n2'⟩, x1', x2'⟩ := hgood
        simp only at g0 g1 g2 g3 w1' w2' n1' n2' x1' x2'
        have hltI : (k : Int) < 300 := by omega
        have hkm : (k : Int) < (m : Int) := by omega
        clear hst hrR
        obtain ⟨ta, tc, rfl, htv1, htv2⟩ := (Rd.of_own hE.o).shape
        have hi64 := Lib.hid hE.i64
        obtain ⟨T, hT⟩ : ∃ T, T = told.length := ⟨_, rfl⟩
        have o1 := hE.o
        rw [← hT] at htk htv1 o1 ⊢
        have HT := Lib.hid hT
        clear hT
        go_upto_region 14 with (fail)
        obtain ⟨W1, hW1⟩ : ∃ W1, wr.alloc (.cells #[.int .i64 sw, .int .i64 sn, .int .i64 sx, .bool near] 37) = W1 := ⟨_, rfl⟩
        have bs : Blk W1 wr.heap.size 37 [.int .i64 sw, .int .i64 sn, .int .i64 sx, .bool near] := by rw [← hW1]; exact Blk.new wr 37 [_, _, _, _]
        have hE1 : PE w pp sb n cp ex sl many r rb sl (.slice ta told.length tc) told W1 := by rw [← hW1, ← HT.out]; exact (HT.out ▸ hE).new ((Below.refl _ _).alloc (Nat.le_refl _) _)
        rw [hW1]
        clear hW1 o1 hE
        have o1 := hE1.o
        rw [← HT.out] at o1
        have c0 := bs.cell 0
        have c1 := bs.cell 1
        have c2 := bs.cell 2
        have c3 := bs.cell 3
        simp only [List.getElem?_cons_zero, List.getElem?_cons_succ] at c0 c1 c2 c3
        go_cut [73] from 51 to 191 (fun v wx => v = .bool (near && decide (0 < T)) ∧ wx = W1)
        case first =>
          cases near with
          | true =>
            rcases Nat.eq_zero_or_pos T with h0 | h0
            · have h1 : decide (0 < T) = false := by simp [h0]
              clear h0
              go_wp2
              go_meet
              exact ⟨by rw [h1]; rfl, rfl⟩
            · go_wp2
              go_meet
              exact ⟨by simp [h0], rfl⟩
          | false =>
            go_wp2
            go_meet
            exact ⟨by simp, rfl⟩
        case rest =>
          obtain ⟨rfl, rfl⟩ := hcut
          go_upto_if 73 with (fail)
          go_cut [13] from 51 to 191 (fun v wx => ∃ h, v = .int .i64 h ∧ In64 h ∧ wx = wc)
          case first =>
            cases hnb : (near && decide (0 < T)) with
            | false =>
              clear hnb
              go_wp2
              go_meet
              exact ⟨_, rfl, ⟨n1', n2'⟩, rfl⟩
            | true =>
              have hT0 : T ≠ 0 := by
                intro h0; subst h0; simp at hnb
              clear hnb
              obtain ⟨u1, u2⟩ := pickN_range (c := sn) (n := (T : Int)) (by omega)
              obtain ⟨k2, hk2⟩ : ∃ k2 : Nat, pickN sn (T : Int) = (k2 : Int) := ⟨(pickN sn T).toNat, by omega⟩
              rw [hk2] at u1 u2
              have Hk2 := Lib.hid hk2
              clear hk2
              obtain ⟨tb', tc', e1⟩ := own_shape o1 hT0
              simp only [Value.slice.injEq, true_and] at e1
              obtain ⟨rfl, rfl⟩ := e1
              have v1 := (Rd.of_own o1).int HT.out.symm (i := k2) (by omega)
              rw [Nat.zero_add] at v1
              have h64 := hi64.out (told[k2]?.getD 0) (by rw [List.getElem?_eq_getElem (by have := HT.out; omega)]; exact List.getElem_mem _)
              go_wp2_with fail
              refine (pick3_any sn T _ n1' n2' (by omega) (by omega)).mono ?_
              rintro e w6 ⟨rfl, rfl⟩
              rw [Hk2.out]
              go_wp2
              go_meet
              exact ⟨_, rfl, h64, rfl⟩
          case rest =>
            obtain ⟨h, rfl, h64, rfl⟩ := hcut
            go_wp2_with fail
            refine (pick3_any sw 7 _ w1' w2' (by decide) (by decide)).mono ?_
            rintro e w6 ⟨rfl, rfl⟩
            obtain ⟨u1, u2⟩ := pickN_range (c := sw) (n := 7) (by decide)
            generalize pickN sw 7 = K at *
            have hTl : T ≤ 300 := by omega
            clear c0 c1 c3 g0 g1 g2 g3 n1' n2' w1' w2'
            go_upto_block 2 with (fail)
            go_cut [6, 10, 14] from 51 to 191 (fun pv tv is wx => is = .bool true ∧ ∃ (pp sb cp : Nat) (ex : List Value) (sl : List Slot) (many : Int) (told : List Int), told.length ≤ k + 1 ∧ pv = .pointer (some ⟨pp, 0, none⟩) ∧ PE w pp sb n cp ex sl many r rb sl tv told wx)
            case first => as_aux_lemma =>
              have hEd := hE1.drew
              have bsd := bs.drew
              rcases (show K = 6 ∨ K = 2 ∨ K = 3 ∨ K = 4 ∨ K = 5 ∨ K = 0 ∨ K = 1 by omega) with rfl | rfl | rfl | rfl | rfl | rfl | rfl
              · cases hat : layN sl h with
                | none =>
                  have Hat := Lib.hid hat
                  clear hat
                  go_wp2_with fail
                  go_region_held3 (fun wx => wx.cell? ⟨wr.heap.size, 2, none⟩ = some (.int .i64 sx)) (go_keep)
                    (first
                      | (go_at_call 28; refine (lay_none h sx pp sb _ _ _ _ hEd.hp h64 Hat.out).mono ?_; rintro e w7 ⟨rfl, rfl⟩)
                      | (go_at_call 30; refine (reflay_none h sx r rb _ _ _ hEd.hr h64 Hat.out).mono ?_; rintro e w8 ⟨rfl, rfl⟩))
                  all_goals
                    go_wp2
                    go_meet
                    exact ⟨rfl, pp, sb, cp, ex, sl, many, told, by have := HT.out; omega, rfl, by rw [HT.out]; exact hEd⟩
                | some j0 =>
                  skip
                  have Hat := Lib.hid hat
                  clear hat
                  go_wp2_with fail
                  go_region_held3 (fun wx => wx.cell? ⟨wr.heap.size, 2, none⟩ = some (.int .i64 sx)) (first | go_keep | exact step_cell bs7 | exact step_cell bs8)
                    (first
                      | (go_at_call 28; first
                          | (refine (lay_some h sx pp sb _ j0 _ _ _ hE8.hp h64 Hat.out).mono ?_
                             rintro e w7 ⟨rfl, hP7, hM7⟩
                             have hE7 := hE8.pool hM7 hP7
                             have bs7 := hE8.stepP bs8 hM7
                             have hEz := hE7)
                          | (refine (lay_some h sx pp sb _ j0 _ _ _ hEd.hp h64 Hat.out).mono ?_
                             rintro e w7 ⟨rfl, hP7, hM7⟩
                             have hE7 := hEd.pool hM7 hP7
                             have bs7 := hEd.stepP bsd hM7))
                      | (go_at_call 30; first
                          | (refine (reflay_some h sx r rb _ j0 _ _ hE7.hr h64 Hat.out).mono ?_
                             rintro e w8 ⟨rfl, hP8, hM8⟩
                             have hE8 := hE7.ref hM8 hP8
                             have bs8 := hE7.stepR bs7 hM8
                             have hEz := hE8)
                          | (refine (reflay_some h sx r rb _ j0 _ _ hEd.hr h64 Hat.out).mono ?_
                             rintro e w8 ⟨rfl, hP8, hM8⟩
                             have hE8 := hEd.ref hM8 hP8
                             have bs8 := hEd.stepR bsd hM8)))
                  all_goals
                    go_wp2
                    go_meet
                    exact ⟨rfl, pp, sb, cp, ex, _, _, told, by have := HT.out; omega, rfl, by rw [HT.out]; exact hEz⟩
              · have hget1 := get_any h pp sb n sl many _ hE1.hp h64
                have hget2 := refget_any h r rb n sl _ hE1.hr
                obtain ⟨gv, gb, hgg⟩ : ∃ gv gb, getN sl h = (gv, gb) := ⟨_, _, rfl⟩
                rw [hgg] at hget1 hget2
                simp only at hget1 hget2
                clear hgg
                have e1 : (gv == gv) = true := by simp
                have e2 : (gb == gb) = true := by simp
                go_wp2_with fail
                refine hget1.mono ?_
                rintro e w7 ⟨rfl, rfl⟩
                go_wp2_with fail
                refine hget2.mono ?_
                rintro e w7 ⟨rfl, rfl⟩
                go_wp2
                go_meet
                exact ⟨rfl, pp, sb, cp, ex, sl, many, told, by have := HT.out; omega, rfl, by rw [HT.out]; exact hE1⟩
              · cases hat : atN sl h with
                | none =>
                  have Hat := Lib.hid hat
                  clear hat
                  go_wp2_with fail
                  go_region_held3 (fun wx => wx.cell? ⟨wr.heap.size, 2, none⟩ = some (.int .i64 sx)) (go_keep)
                    (first
                      | (go_at_call 32; refine (set_none h sx pp sb _ _ _ _ hEd.hp h64 Hat.out).mono ?_; rintro e w7 ⟨rfl, rfl⟩)
                      | (go_at_call 33; refine (refset_none h sx r rb _ _ _ hEd.hr Hat.out).mono ?_; rintro e w8 ⟨rfl, rfl⟩))
                  all_goals
                    go_wp2
                    go_meet
                    exact ⟨rfl, pp, sb, cp, ex, sl, many, told, by have := HT.out; omega, rfl, by rw [HT.out]; exact hEd⟩
                | some j0 =>
                  obtain ⟨s0, hs0, _⟩ := atN_some hat
                  have Hs0 := Lib.hid hs0
                  clear hs0
                  have Hat := Lib.hid hat
                  clear hat
                  go_wp2_with fail
                  go_region_held3 (fun wx => wx.cell? ⟨wr.heap.size, 2, none⟩ = some (.int .i64 sx)) (first | go_keep | exact step_cell bs7 | exact step_cell bs8)
                    (first
                      | (go_at_call 32; first
                          | (refine (set_some h sx pp sb _ j0 _ _ _ hE8.hp h64 s0 Hat.out Hs0.out).mono ?_
                             rintro e w7 ⟨rfl, hP7, hM7⟩
                             have hE7 := hE8.pool hM7 hP7
                             have bs7 := hE8.stepP bs8 hM7
                             have hEz := hE7)
                          | (refine (set_some h sx pp sb _ j0 _ _ _ hEd.hp h64 s0 Hat.out Hs0.out).mono ?_
                             rintro e w7 ⟨rfl, hP7, hM7⟩
                             have hE7 := hEd.pool hM7 hP7
                             have bs7 := hEd.stepP bsd hM7))
                      | (go_at_call 33; first
                          | (refine (refset_some h sx r rb _ j0 _ _ hE7.hr s0 Hat.out Hs0.out).mono ?_
                             rintro e w8 ⟨rfl, hP8, hM8⟩
                             have hE8 := hE7.ref hM8 hP8
                             have bs8 := hE7.stepR bs7 hM8
                             have hEz := hE8)
                          | (refine (refset_some h sx r rb _ j0 _ _ hEd.hr s0 Hat.out Hs0.out).mono ?_
                             rintro e w8 ⟨rfl, hP8, hM8⟩
                             have hE8 := hEd.ref hM8 hP8
                             have bs8 := hEd.stepR bsd hM8)))
                  all_goals
                    go_wp2
                    go_meet
                    exact ⟨rfl, pp, sb, cp, ex, _, _, told, by have := HT.out; omega, rfl, by rw [HT.out]; exact hEz⟩
              · go_wp2_with fail
                cases hat : atN sl h with
                | none =>
                  refine (drop_none _ pp sb _ _ _ _ hE1.hp h64 hat).mono ?_
                  rintro e wm ⟨rfl, rfl⟩
                  have Hat := Lib.hid hat
                  clear hat
                  go_wp2_with fail
                  refine (refdrop_none _ r rb _ _ _ hE1.hr Hat.out).mono ?_
                  rintro e wm ⟨rfl, rfl⟩
                  go_wp2
                  go_meet
                  exact ⟨rfl, pp, sb, cp, ex, sl, many, told, by have := HT.out; omega, rfl, by rw [HT.out]; exact hE1⟩
                | some j0 =>
                  obtain ⟨s0, hs0, _⟩ := atN_some hat
                  have Hat := Lib.hid hat
                  have Hs0 := Lib.hid hs0
                  clear hat hs0
                  refine (drop_some _ pp sb _ j0 _ _ _ hE1.hp h64 s0 Hat.out Hs0.out).mono ?_
                  rintro e w7 ⟨rfl, hP7, hM7⟩
                  have hE7 := hE1.pool hM7 hP7
                  go_wp2_with fail
                  refine (refdrop_some _ r rb _ j0 _ _ hE7.hr s0 Hat.out Hs0.out).mono ?_
                  rintro e w8 ⟨rfl, hP8, hM8⟩
                  have hE8 := hE7.ref hM8 hP8
                  go_wp2
                  go_meet
                  exact ⟨rfl, pp, sb, cp, ex, _, _, told, by have := HT.out; omega, rfl, by rw [HT.out]; exact hE8⟩
              · go_wp2_with fail
                refine (clone_any pp sb n cp ex sl many _ hE1.hp).mono ?_
                rintro e w7 ⟨p', sb', cp', ex', rfl, hP7, B7, l7, l7'⟩
                have hE7 := (hE1.new B7).swap hP7 (by have := hE1.bel.size; omega) (by have := hE1.bel.size; omega)
                have hO7 := hE1.hp.below B7 hE1.hp.head.lt hE1.hp.slots.lt
                have hbs7 := bs.below B7 bs.lt
                have hlo := hE1.lo
                have a1 := hE1.hp.head.lt
                have a2 := hE1.hp.slots.lt
                have c27 := step_cell hbs7
                go_wp2_with fail
                refine (put_any sx pp sb n sl many w7 hO7).mono ?_
                rintro e w8 ⟨hM8, hor⟩
                have hE8 := hE7.old hO7 (by omega) (by omega) hlo.1 hlo.2.1 hM8
                obtain ⟨sl8, many8, hO8, ev, rfl⟩ : ∃ sl8 many8, PoolAt w8 pp sb n cp ex sl8 many8 ∧ ∃ ev, e = .returned ev := by
                  rcases hor with ⟨_, rfl, hP8⟩ | ⟨k', s', _, _, rfl, hP8⟩
                  · exact ⟨_, _, hP8, _, rfl⟩
                  · exact ⟨_, _, hP8, _, rfl⟩
                clear hor
                go_wp2_with fail
                cases hat : atN sl8 h with
                | none =>
                  refine (drop_none _ pp sb _ _ _ _ hO8 h64 hat).mono ?_
                  rintro e wm ⟨rfl, rfl⟩
                  clear hat
                  go_wp2
                  go_meet
                  exact ⟨rfl, _, _, _, _, _, _, told, by have := HT.out; omega, rfl, by rw [HT.out]; exact hE8⟩
                | some j0 =>
                  obtain ⟨s0, hs0, _⟩ := atN_some hat
                  have Hat := Lib.hid hat
                  have Hs0 := Lib.hid hs0
                  clear hat hs0
                  refine (drop_some _ pp sb _ j0 _ _ _ hO8 h64 s0 Hat.out Hs0.out).mono ?_
                  rintro e w9 ⟨rfl, hP9, hM9⟩
                  have hE9 := hE8.old hO8 (by omega) (by omega) hlo.1 hlo.2.1 hM9
                  go_wp2
                  go_meet
                  exact ⟨rfl, _, _, _, _, _, _, told, by have := HT.out; omega, rfl, by rw [HT.out]; exact hE9⟩
              all_goals
                cases hpn : putN sl n with
                | none =>
                  have Hpn := Lib.hid hpn
                  clear hpn
                  go_wp2_with fail
                  refine (put_no sx pp sb _ _ _ _ hE1.hp Hpn.out).mono ?_
                  rintro e w7 ⟨rfl, hP7, hM7⟩
                  have hE7 := hE1.pool hM7 hP7
                  have bs7 := hE1.stepP bs hM7
                  have c27 := step_cell bs7
                  go_wp2_with fail
                  refine (refput_no sx r rb _ _ _ hE7.hr Hpn.out).mono ?_
                  rintro e w8 ⟨rfl, hP8, hM8⟩
                  have hE8 := hE7.ref hM8 hP8
                  have o8 := hE8.o
                  rw [← HT.out] at o8
                  obtain ⟨i3, hi3, hz3a, hz3b, hz3c⟩ := info_parts info3
                  have hz8 := hE8.bel.size
                  go_wp2_with (at_builtin; refine wpList_append_own _ rfl _ _ 26 rfl w.heap.size 3 i3 (.int .i64 0) 1 8 Try.underlying26 hi3 hz3a hz3b hz3c rfl (by decide) _ _ _ rfl (o8.alloc _) ⟨w8.heap.size, 0, none⟩ 1 1 [.int .i64 0] rfl rfl (World.news_of_block (cs := #[.int .i64 0]) (t := 3) (fr := (0, 0)) (heap_alloc_new w8 _)) (by simp [Value.oneCell']) (by unfold maxLen; omega) (by omega) (by simp; omega) ?_; intro v9 w9 o9 hg9 _)
                  have hE9 := hE8.app (v := 0) hg9 (by rw [← HT.out]; rfl) (by have := HT.out; rw [← this]; simpa [ints] using o9) (by unfold In64; decide)
                  go_meet
                  exact ⟨rfl, pp, sb, cp, ex, _, _, _, by have := HT.out; rw [List.length_append]; simp only [List.length_cons, List.length_nil]; omega, rfl, hE9⟩
                | some j0 =>
                  obtain ⟨hj0, s0, hs0, hf0⟩ := put_some_spec hpn
                  have hin : In64 (hOf s0.age j0) := hOf_in64 hE1.hp hs0
                  have Hpn := Lib.hid hpn
                  have Hs0 := Lib.hid hs0
                  clear hpn hs0 hf0
                  go_wp2_with fail
                  refine (put_yes sx pp sb _ j0 _ _ _ hE1.hp s0 Hs0.out Hpn.out (hOf s0.age j0) rfl).mono ?_
                  rintro e w7 ⟨rfl, hP7, hM7⟩
                  have hE7 := hE1.pool hM7 hP7
                  have bs7 := hE1.stepP bs hM7
                  have c27 := step_cell bs7
                  go_wp2_with fail
                  refine (refput_yes sx r rb _ j0 _ _ hE7.hr s0 Hs0.out Hpn.out (hOf s0.age j0) rfl).mono ?_
                  rintro e w8 ⟨rfl, hP8, hM8⟩
                  have hE8 := hE7.ref hM8 hP8
                  generalize hOf s0.age j0 = H at *
                  have o8 := hE8.o
                  rw [← HT.out] at o8
                  obtain ⟨i3, hi3, hz3a, hz3b, hz3c⟩ := info_parts info3
                  have hz8 := hE8.bel.size
                  have hHH : (H == H) = true := by simp
                  go_wp2_with (at_builtin; refine wpList_append_own _ rfl _ _ 26 rfl w.heap.size 3 i3 (.int .i64 0) 1 8 Try.underlying26 hi3 hz3a hz3b hz3c rfl (by decide) _ _ _ rfl (o8.alloc _) ⟨w8.heap.size, 0, none⟩ 1 1 [.int .i64 H] rfl rfl (World.news_of_block (cs := #[.int .i64 H]) (t := 3) (fr := (0, 0)) (heap_alloc_new w8 _)) (by simp [Value.oneCell']) (by unfold maxLen; omega) (by omega) (by simp; omega) ?_; intro v9 w9 o9 hg9 _)
                  have hE9 := hE8.app (v := H) hg9 (by rw [← HT.out]; rfl) (by have := HT.out; rw [← this]; simpa [ints] using o9) hin
                  go_meet
                  exact ⟨rfl, pp, sb, cp, ex, _, _, _, by have := HT.out; rw [List.length_append]; simp only [List.length_cons, List.length_nil]; omega, rfl, hE9⟩
            case rest =>
              clear hE1
              obtain ⟨rfl, pp, sb, cp, ex, sl, many, told, htk, rfl, hE⟩ := hcut
              go_wp2_with fail
              refine (same3_any pp sb n cp ex sl many r rb _ hE.hp hE.hr).mono ?_
              rintro e w7 ⟨rfl, B7⟩
              have hE7 := hE.new B7
              go_wp2
              exact ⟨⟨k + 1, pp, sb, cp, ex, sl, many, told, by omega, by omega, by omega, rfl, by simp, hE7⟩, by simp [intOf]; omega⟩
      all_goals
        go_wp2
        go_ret
        exact ⟨rfl, hE.bel⟩
end Go.Proofs.Ytafljpfephomoaa
