/- Trees: the reference's New, Wide and Find. -/
import Derived.Test.YtadfmhjnmmmalaaR1
namespace Go.Proofs.Ytadfmhjnmmmalaa
open Go.RowKit Go.Maps
set_option maxRecDepth 100000 in
theorem new23_bad (room : Int) (h : room < 1 ∨ 1024 < room) (w : World) :
    Calls Try.prog 23 #[.int .i64 room] w fun e w' => e = .returned (.tuple #[.pointer none, .int .i64 1]) ∧ w = w' := by
  by_cases h1 : room < 1
  · go_enter Try.func23, Try.ntmps23
    go_wp2
    go_ret2
    exact ⟨rfl, rfl⟩
  · have h2 : 1024 < room := by omega
    go_enter Try.func23, Try.ntmps23
    go_wp2
    go_ret2
    exact ⟨rfl, rfl⟩
set_option maxRecDepth 100000 in
theorem new23_any (room : Nat) (h1 : 1 ≤ room) (h2 : room ≤ 1024) (w : World) :
    Calls Try.prog 23 #[.int .i64 (room : Int)] w fun e w' => ∃ q, e = .returned (.tuple #[.pointer (some ⟨q, 0, none⟩), .int .i64 0]) ∧ Ref w' q (.slice none 0 0) room [] ∧ Below w.heap.size w w' ∧ w.heap.size ≤ q := by
  have g1 : ¬ (room : Int) < 1 := by omega
  have g2 : ¬ (1024 : Int) < (room : Int) := by omega
  go_enter Try.func23, Try.ntmps23
  go_wp2
  go_ret2
  have ht := Blk.newAt (w := w) (b := w.heap.size) rfl 67 [.slice none 0 0, .int .i64 (room : Int)]
  exact ⟨w.heap.size, rfl, ⟨ht, World.ownsRow_nil _ _ _ _⟩, (Below.refl _ w).alloc (Nat.le_refl _) _, Nat.le_refl _⟩
set_option maxRecDepth 100000 in
theorem wide28_any (q : Nat) (v : Value) (room : Nat) (L : List Lf) (hL : Rises L) (h : Int) (w : World) (hR : Ref w q v room L) :
    Calls Try.prog 28 #[.pointer (some ⟨q, 0, none⟩), .int .i64 h] w fun e w' => e = .returned (.tuple #[boxV ((boxOf L h).getD noB), .bool (hasL L h)]) ∧ Below w.heap.size w w' := by
  have hR1 := hR.below ((Below.refl _ w).alloc (Nat.le_refl _) (.cells #[.int .i64 0, .int .i64 0, .int .i64 0, .int .i64 0, .int .i64 0, .int .i64 0] 34))
  obtain ⟨a, c, rfl, h1, h2⟩ := hR.shape
  have hql := hR.1.lt
  have HL := Lib.hid hL
  have HR := Lib.hid hR
  clear hR hL
  unfold hasL
  cases hb : boxOf L h with
  | none =>
    have hn0 := boxOf_none.1 hb
    have Hn := Lib.hid hn0
    clear hb hn0
    simp only [Option.getD_none, Option.isSome_none]
    go_enter Try.func28, Try.ntmps28
    go_wp2_with fail
    refine (place38_any q _ room L h _ hR1).mono ?_
    rintro e w1 ⟨rfl, ⟨i, x, rfl, hx, hh⟩ | ⟨rfl, hn⟩⟩
    · exact absurd hh (Hn.out x (List.mem_of_getElem? hx))
    · clear hn hR1 HR HL
      go_wp2
      refine bodyPost_ret (v := .tuple #[boxV noB, .bool false]) (by simp [results, Try.f28, go_sem, noB]) rfl ⟨rfl, ?_⟩
      exact (Below.refl _ w).alloc (Nat.le_refl _) _
  | some bx =>
    have Hb := Lib.hid hb
    clear hb
    simp only [Option.getD_some, Option.isSome_some]
    go_enter Try.func28, Try.ntmps28
    go_wp2_with fail
    refine (place38_any q _ room L h _ hR1).mono ?_
    rintro e w1 ⟨rfl, ⟨i, x, rfl, hx, hh⟩ | ⟨rfl, hn⟩⟩
    · have hb2 : x.2 = bx := by
        have h5 := (boxOf_some HL.out (h := h) (b := x.2)).2 (by rw [← hh]; exact List.mem_of_getElem? hx)
        rw [Hb.out] at h5
        exact (Option.some.inj h5).symm
      obtain ⟨N, hN⟩ : ∃ N, N = L.length := ⟨_, rfl⟩
      have hown := HR.out.2
      have c0 := HR.out.1.cell 0
      simp only [List.getElem?_cons_zero] at c0
      rw [← hN] at hown c0 h1
      have hiN : i < N := by rw [hN]; exact (List.getElem?_eq_some_iff.1 hx).1
      have hiI : (i : Int) < (N : Int) := by omega
      obtain ⟨g, gc, e0⟩ := own_addr hown (by omega)
      obtain ⟨rfl, -⟩ : a = some ⟨g, 0, none⟩ ∧ True := by cases e0; exact ⟨rfl, trivial⟩
      obtain ⟨p0, p1, p2, p3, p4, p5, p6⟩ := own_leaf hown hiN hx
      rw [hb2] at p1 p2 p3 p4 p5 p6
      have hgl := own_lt hown (r := g) rfl
      clear hN hx hh hown hR1 HR HL e0 hb2 Hb p0
      go_wp2
      refine bodyPost_ret (v := .tuple #[boxV bx, .bool true]) (by simp [results, Try.f28, go_sem]) rfl ⟨rfl, ?_⟩
      exact (Below.refl _ w).alloc (Nat.le_refl _) _
    · have h5 := boxOf_none.2 hn
      rw [Hb.out] at h5
      cases h5
/-- What Find has found among the first k. -/
theorem foundL_succ {L : List Lf} {b : Bx} {k : Nat} {x : Lf} (hx : L[k]? = some x) : foundL (L.take (k + 1)) b = foundL (L.take k) b ++ (if meetB x.2 b then [x.1] else []) := by
  unfold foundL
  rw [List.take_add_one, hx, List.filter_append, List.map_append]
  by_cases h : meetB x.2 b = true <;> simp [h]
set_option maxRecDepth 100000 in
set_option maxHeartbeats 1000000 in
theorem find26_any (q : Nat) (v : Value) (room : Nat) (L : List Lf) (b : Bx) (w : World) (hR : Ref w q v room L) (hLen : L.length ≤ 1024) :
    Calls Try.prog 26 #[.pointer (some ⟨q, 0, none⟩), boxV b] w fun e w' => ∃ v, e = .returned v ∧ Rd w' v (foundL L b).length 1 (ints (foundL L b)) ∧ Below w.heap.size w w' := by
  obtain ⟨a, c, rfl, h1, h2⟩ := hR.shape
  obtain ⟨N, hN⟩ : ∃ N, N = L.length := ⟨_, rfl⟩
  have B0 : Below w.heap.size w (w.alloc (.cells b.cells.toArray 34)) := (Below.refl _ w).alloc (Nat.le_refl _) _
  have hbk := Blk.newAt (w := w) (b := w.heap.size) rfl 34 b.cells
  have hR0 := hR.below B0
  have hb0 : (w.alloc (.cells b.cells.toArray 34)).heap.size = w.heap.size + 1 := by simp
  have HL := Lib.hid hLen
  have HN := Lib.hid hN
  have HR := Lib.hid hR0
  have Hbk := Lib.hid hbk
  have HB0 := Lib.hid B0
  have Hb0 := Lib.hid hb0
  have hN24 : N ≤ 1024 := by omega
  have hql : q < w.heap.size := hR.1.lt
  rw [← hN] at h1
  clear hLen hN hR hR0 hbk B0 hb0
  obtain ⟨i0, hi, hz0, hz1, hz2⟩ := info_parts info30
  go_enter Try.func26, Try.ntmps26
  go_upto_region 1 with (fail)
  obtain ⟨w1, hw1⟩ : ∃ w1, w.alloc (.cells b.cells.toArray 34) = w1 := ⟨_, rfl⟩
  change Code.wp _ _ _ _ (w.alloc (.cells b.cells.toArray 34))
  rw [hw1] at HR Hbk HB0 Hb0 ⊢
  clear hw1
  have hB1 : Below (w.heap.size + 1) w1 w1 := Below.refl _ _
  go_wp2_with fail
  go_loopw [5, 6] (fun v i wr => ∃ k : Nat, k ≤ N ∧ i = .int .i64 (k : Int) ∧ wr.ownsRow (w.heap.size + 1) 30 1 v (foundL (L.take k) b).length (ints (foundL (L.take k) b)) ∧ Below (w.heap.size + 1) w1 wr) (fun _ i _ => N - (intOf i).toNat)
  case atStart => exact ⟨0, Nat.zero_le _, rfl, World.ownsRow_nil _ _ _ _, hB1⟩
  case round =>
    clear hB1
    obtain ⟨k, hk, rfl, hrow, hB⟩ := hrel
    have hB' : Below w1.heap.size w1 wr := by rw [Hb0.out]; exact hB
    have hRr := HR.out.below hB'
    have c0 := hRr.1.cell 0
    simp only [List.getElem?_cons_zero] at c0
    rw [← HN.out] at c0
    by_cases hkN : k < N
    · obtain ⟨x, hx⟩ : ∃ x, L[k]? = some x := ⟨_, List.getElem?_eq_getElem (by rw [← HN.out]; exact hkN)⟩
      have hown := hRr.2
      rw [← HN.out] at hown
      obtain ⟨g, gc, e0⟩ := own_addr hown (by omega)
      obtain ⟨rfl, -⟩ : a = some ⟨g, 0, none⟩ ∧ True := by cases e0; exact ⟨rfl, trivial⟩
      have hkI : (k : Int) < (N : Int) := by omega
      have hsr := hB'.size
      have hsr2 : w.heap.size + 1 ≤ wr.heap.size := by have := Hb0.out; omega
      have HQ : Hid (∀ W, Below wr.heap.size wr W → W.cell? ⟨q, 0, none⟩ = some (.slice (some ⟨g, 0, none⟩) N c) ∧ W.cell? ⟨g, k * 7, none⟩ = some (.int .i64 x.1) ∧ W.cell? ⟨g, k * 7 + 1, none⟩ = some (.int .i64 x.2.x0) ∧ W.cell? ⟨g, k * 7 + 1 + 1, none⟩ = some (.int .i64 x.2.y0) ∧ W.cell? ⟨g, k * 7 + 1 + 2, none⟩ = some (.int .i64 x.2.z0) ∧ W.cell? ⟨g, k * 7 + 1 + 3, none⟩ = some (.int .i64 x.2.x1) ∧ W.cell? ⟨g, k * 7 + 1 + 4, none⟩ = some (.int .i64 x.2.y1) ∧ W.cell? ⟨g, k * 7 + 1 + 5, none⟩ = some (.int .i64 x.2.z1) ∧ W.cell? ⟨w.heap.size, 0, none⟩ = some (.int .i64 b.x0) ∧ W.cell? ⟨w.heap.size, 1, none⟩ = some (.int .i64 b.y0) ∧ W.cell? ⟨w.heap.size, 2, none⟩ = some (.int .i64 b.z0) ∧ W.cell? ⟨w.heap.size, 3, none⟩ = some (.int .i64 b.x1) ∧ W.cell? ⟨w.heap.size, 4, none⟩ = some (.int .i64 b.y1) ∧ W.cell? ⟨w.heap.size, 5, none⟩ = some (.int .i64 b.z1)) := Lib.hid fun W hW => by
        have h3 := (hRr.1.below hW hRr.1.lt).cell 0
        simp only [List.getElem?_cons_zero] at h3
        rw [← HN.out] at h3
        obtain ⟨p0, p1, p2, p3, p4, p5, p6⟩ := own_leaf (own_new hown hW) hkN hx
        have h4 := (Hbk.out.below hB' Hbk.out.lt).below hW (by have := Hbk.out.lt; omega)
        exact ⟨h3, p0, p1, p2, p3, p4, p5, p6, h4.cell 0, h4.cell 1, h4.cell 2, h4.cell 3, h4.cell 4, h4.cell 5⟩
      have Hx := Lib.hid hx
      have HBr := Lib.hid hB
      have Hrow := Lib.hid hrow
      clear hx hown hRr hB hB' hrow e0
      go_wp2_with fail
      have HBc := (Below.refl wr.heap.size wr).drew
      go_region_held3 (fun W => W.cell? ⟨q, 0, none⟩ = some (.slice (some ⟨g, 0, none⟩) N c) ∧ W.cell? ⟨g, k * 7, none⟩ = some (.int .i64 x.1) ∧ W.cell? ⟨g, k * 7 + 1, none⟩ = some (.int .i64 x.2.x0) ∧ W.cell? ⟨g, k * 7 + 1 + 1, none⟩ = some (.int .i64 x.2.y0) ∧ W.cell? ⟨g, k * 7 + 1 + 2, none⟩ = some (.int .i64 x.2.z0) ∧ W.cell? ⟨g, k * 7 + 1 + 3, none⟩ = some (.int .i64 x.2.x1) ∧ W.cell? ⟨g, k * 7 + 1 + 4, none⟩ = some (.int .i64 x.2.y1) ∧ W.cell? ⟨g, k * 7 + 1 + 5, none⟩ = some (.int .i64 x.2.z1) ∧ W.cell? ⟨w.heap.size, 0, none⟩ = some (.int .i64 b.x0) ∧ W.cell? ⟨w.heap.size, 1, none⟩ = some (.int .i64 b.y0) ∧ W.cell? ⟨w.heap.size, 2, none⟩ = some (.int .i64 b.z0) ∧ W.cell? ⟨w.heap.size, 3, none⟩ = some (.int .i64 b.x1) ∧ W.cell? ⟨w.heap.size, 4, none⟩ = some (.int .i64 b.y1) ∧ W.cell? ⟨w.heap.size, 5, none⟩ = some (.int .i64 b.z1)) (with_reducible exact HQ.out _ HBc)
        (first | (go_at_call 42; with_reducible refine (meet42_any x.2 b _).mono ?_; rintro e wn ⟨rfl, hBn⟩; replace HBc := HBc.trans (hBn.mono HBc.size); clear hBn))
      have hrow4 := own_new Hrow.out HBc
      have hB4 : Below (w.heap.size + 1) w1 wn := HBr.out.trans (HBc.mono hsr2)
      have hs4 := HBc.size
      obtain ⟨f0, f1, -⟩ := HQ.out wn HBc
      have hsu := foundL_succ (b := b) Hx.out
      have hfl : (foundL (L.take k) b).length ≤ 1024 := by
        have h5 := found_len (L.take k) b
        rw [List.length_take] at h5
        omega
      clear HQ HBc HBr Hrow c0
      cases hm : meetB x.2 b
      · rw [hm] at hsu
        simp only [Bool.false_eq_true, if_false, List.append_nil] at hsu
        rw [← hsu] at hrow4
        clear hsu hfl hm
        go_wp2
        go_roundw
        case rel => exact ⟨k + 1, by omega, by go_num, hrow4, hB4⟩
        case measure => simp [intOf]; omega
      · rw [hm] at hsu
        simp only [if_true] at hsu
        have Hsu := Lib.hid hsu
        have hro := hrow4.alloc (.cells #[.int .i64 x.1] 30)
        have Hro := Lib.hid hro
        have Hr4 := Lib.hid hrow4
        have HB4 := Lib.hid hB4
        have hs5 : w.heap.size + 1 ≤ (wn.alloc (.cells #[.int .i64 x.1] 30)).heap.size := by simp; omega
        clear hsu hm hro hrow4 hB4
        go_wp2_with (first
          | (at_builtin; refine wpList_append_own_at _ rfl _ _ 45 rfl (w.heap.size + 1) 30 i0 (.int .i64 0) 1 8 Try.underlying45 hi hz0 hz1 hz2 rfl (by decide) _ _ _ rfl Hro.out ⟨wn.heap.size, 0, none⟩ 1 1 [.int .i64 x.1] rfl rfl (cell_one_new _ _ _) (by simp [Value.oneCell']) (by unfold maxLen; omega) (by omega) hs5 ?_; intro v1 w6 o6 hg6 _ hv6)
          | go_in)
        have hrow6 : w6.ownsRow (w.heap.size + 1) 30 1 v1 (foundL (L.take (k + 1)) b).length (ints (foundL (L.take (k + 1)) b)) := by
          rw [Hsu.out, List.length_append, ints_append]
          exact o6
        have hB6 : Below (w.heap.size + 1) w1 w6 := HB4.out.trans (((Below.refl (w.heap.size + 1) wn).alloc (by omega) (.cells #[.int .i64 x.1] 30)).trans ⟨hg6.os, hg6.tape, hg6.output, hg6.size, fun j hj => hg6.block j (by simp; omega) (fun e => by have := ownBlock_ge Hr4.out e.symm; omega)⟩)
        clear o6 hg6 hv6 hfl
        go_roundw
        case rel => exact ⟨k + 1, by omega, by go_num, hrow6, hB6⟩
        case measure => simp [intOf]; omega
    · obtain rfl : k = N := by omega
      have hrd := Rd.of_own hrow
      have hall : L.take k = L := by rw [HN.out, List.take_length]
      rw [hall] at hrd
      have Hrd := Lib.hid hrd
      have HBr := Lib.hid hB
      clear hrow hrd hall hB hB' hRr
      go_wp2
      go_ret
      exact ⟨_, rfl, Hrd.out, HB0.out.trans (HBr.out.mono (Nat.le_succ _))⟩
end Go.Proofs.Ytadfmhjnmmmalaa
