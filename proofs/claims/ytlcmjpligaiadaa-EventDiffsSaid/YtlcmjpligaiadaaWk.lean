/- The reference set's Put. -/
import Derived.Test.YtlcmjpligaiadaaWj
namespace Go.Proofs.Ytlcmjpligaiadaa
open Go.RowKit
/-- The first k of l, with p at place x if that is below k. -/
def insK (l : List Pr) (p : Pr) (x k : Nat) : List Pr := if k ≤ x then l.take k else l.take x ++ p :: (l.take k).drop x
theorem insK_zero (l : List Pr) (p : Pr) (x : Nat) : insK l p x 0 = [] := by simp [insK]
theorem insK_below {l : List Pr} {p q : Pr} {x k : Nat} (hq : l[k]? = some q) (h : k < x) : insK l p x (k + 1) = insK l p x k ++ [q] := by
  unfold insK
  rw [if_pos (by omega), if_pos (by omega), take_at hq]
theorem insK_at {l : List Pr} {p q : Pr} {k : Nat} (hq : l[k]? = some q) : insK l p k (k + 1) = (insK l p k k ++ [p]) ++ [q] := by
  have hk := (List.getElem?_eq_some_iff.1 hq).1
  unfold insK
  rw [if_neg (by omega), if_pos (by omega), take_at hq, List.drop_append]
  simp [show min k l.length = k by omega]
theorem insK_above {l : List Pr} {p q : Pr} {x k : Nat} (hq : l[k]? = some q) (h : x < k) : insK l p x (k + 1) = insK l p x k ++ [q] := by
  have hk := (List.getElem?_eq_some_iff.1 hq).1
  unfold insK
  rw [if_neg (by omega), if_neg (by omega), take_at hq, List.drop_append]
  simp [show x - min k l.length = 0 by omega]
theorem insK_end_put {l : List Pr} {p : Pr} {x : Nat} (h : x < l.length) : insK l p x l.length = l.take x ++ p :: l.drop x := by
  unfold insK
  rw [if_neg (by omega), List.take_length]
theorem insK_end_not {l : List Pr} {p : Pr} {x : Nat} (hx : x = l.length) : insK l p x l.length ++ [p] = l.take x ++ p :: l.drop x := by
  subst hx
  unfold insK
  rw [if_pos (by omega)]
  simp
theorem insK_len {l : List Pr} {p : Pr} {x k : Nat} (hk : k ≤ l.length) : (insK l p x k).length ≤ k + 1 := by
  unfold insK
  split <;> simp <;> omega
def RPutPost (s base room : Nat) (v : Value) (l : List Pr) (p : Pr) (w : World) (e : Ending) (w' : World) : Prop :=
  e = .returned (.tuple #[.bool (canPut room l p), .int .i64 (putE room l p)]) ∧ RPost s base room v (putS room l p) w w'
theorem rpost_same {w W : World} {s base room : Nat} {v : Value} {l l' : List Pr} (hl : l' = l) (hs : RefAt w s base v room l) (hB : Below w.heap.size w W) : RPost s base room v l' w W := by
  subst hl
  exact ⟨v, hs.new hB, below_mod hB, fun j h => .inl h⟩
set_option maxRecDepth 100000 in
set_option maxHeartbeats 4000000 in
theorem rput_any (s base room : Nat) (v : Value) (l : List Pr) (p : Pr) (w : World) (hb : base ≤ w.heap.size) (hr : Rising l) (hs : RefAt w s base v room l) :
    Calls Try.prog 43 #[.pointer (some ⟨s, 0, none⟩), .agg #[.int .i64 p.1, .int .i64 p.2]] w (RPutPost s base room v l p w) := by
  obtain ⟨i0, hi, hz0, hz1, hz2⟩ := info_parts info42
  obtain ⟨p1, p2⟩ := p
  have hlen := hs.len
  have hfull := hs.full
  have hrm := hs.room
  have B0 : Below w.heap.size w (w.alloc (.cells #[.int .i64 p1, .int .i64 p2] 42)) := (Below.refl _ w).alloc (Nat.le_refl _) _
  have x0 : Blk (w.alloc (.cells #[.int .i64 p1, .int .i64 p2] 42)) w.heap.size 42 [.int .i64 p1, .int .i64 p2] := Blk.new w 42 [_, _]
  have hs0 := hs.new B0
  by_cases hlt12 : p1 < p2
  · have hge : ¬ p2 ≤ p1 := by omega
    have hhas := fun W (hW : RefAt W s base v room l) => rhas_any s base room v l (p1, p2) W hW
    cases hh : hasP l (p1, p2) with
    | true =>
      have hf1 : canPut room l (p1, p2) = false := by simp [canPut, hh]
      have hf2 : putE room l (p1, p2) = 0 := by simp [putE, hh, hlt12]
      have hf3 : putS room l (p1, p2) = l := by simp [putS, hf1]
      rw [hh] at hhas
      have Hhas := Lib.hid hhas
      have Hf1 := Lib.hid hf1
      have Hf2 := Lib.hid hf2
      have Hf3 := Lib.hid hf3
      clear hf1 hf2 hf3 hh hhas
      go_enter Try.func43, Try.ntmps43
      go_wp2_with fail
      generalize w.alloc (.cells #[.int .i64 p1, .int .i64 p2] 42) = W0 at B0 x0 hs0 ⊢
      refine (Hhas.out W0 hs0).mono ?_
      rintro e w1 ⟨rfl, B1⟩
      go_wp2
      go_ret2
      exact ⟨by rw [Hf1.out, Hf2.out]; rfl, rpost_same Hf3.out hs (B0.trans (B1.mono B0.size))⟩
    | false =>
      rw [hh] at hhas
      have Hhas := Lib.hid hhas
      clear hhas
      obtain ⟨sa, sc, rfl, s1, s2⟩ := hs.rd.shape
      by_cases hfu : room ≤ l.length
      · have hf1 : canPut room l (p1, p2) = false := by simp [canPut]; omega
        have hf2 : putE room l (p1, p2) = 40 := by simp [putE, hh, hlt12, show ¬ l.length < room by omega]
        have hf3 : putS room l (p1, p2) = l := by simp [putS, hf1]
        have Hf1 := Lib.hid hf1
        have Hf2 := Lib.hid hf2
        have Hf3 := Lib.hid hf3
        have hfi : (room : Int) ≤ (l.length : Int) := by omega
        clear hf1 hf2 hf3 hh
        go_enter Try.func43, Try.ntmps43
        go_wp2_with fail
        generalize w.alloc (.cells #[.int .i64 p1, .int .i64 p2] 42) = W0 at B0 x0 hs0 ⊢
        refine (Hhas.out W0 hs0).mono ?_
        rintro e w1 ⟨rfl, B1⟩
        have hs1 := hs0.new B1
        have c0 := hs1.head.cell 0
        have c1 := hs1.head.cell 1
        simp only [List.getElem?_cons_zero, List.getElem?_cons_succ] at c0 c1
        go_wp2
        go_quiet (fail)
        go_wp2
        go_ret2
        exact ⟨by rw [Hf1.out, Hf2.out]; rfl, rpost_same Hf3.out hs (Below.drewN' (B0.trans (B1.mono B0.size)) _)⟩
      · have hf1 : canPut room l (p1, p2) = true := by simp [canPut, hlt12, hh]; omega
        have hf2 : putE room l (p1, p2) = 0 := by simp [putE, hh, hlt12, show l.length < room by omega]
        have hnew : (p1, p2) ∉ l := by simpa [hasP] using hh
        have hplen := putP_len l (p1, p2)
        have hkle := idxP_le l (p1, p2)
        obtain ⟨x, hx⟩ : ∃ x, x = idxP l (p1, p2) := ⟨_, rfl⟩
        have hf3 : putS room l (p1, p2) = l.take x ++ (p1, p2) :: l.drop x := by simp [putS, hf1, putP, hx]
        have hless : ∀ k q, l[k]? = some q → decide (ltP (p1, p2) q) = decide (x ≤ k) := fun k q hq => by
          rw [decide_eq_decide, hx]
          constructor
          · intro h
            rcases Nat.lt_or_ge k (idxP l (p1, p2)) with h1 | h1
            · exact (ltP_irrefl _ (ltP_trans h (idxP_below h1 hq))).elim
            · exact h1
          · intro h
            rcases ltP_or (p1, p2) q with h1 | h1 | h1
            · exact h1
            · exact (hnew (h1 ▸ List.mem_of_getElem? hq)).elim
            · exact (idxP_above hr h hq h1).elim
        have hend := fun W n ov h1 h2 h3 h4 => rpost_end (W := W) (n := n) (ov := ov) (l' := putS room l (p1, p2)) hb hs h1 h2 h3 h4
        have hpl2 : (putS room l (p1, p2)).length = l.length + 1 := by rw [hf3, ← hplen, hx]; rfl
        rw [← hx] at hkle
        have Hend := Lib.hid hend
        have Hless := Lib.hid hless
        have Hf1 := Lib.hid hf1
        have Hf2 := Lib.hid hf2
        have Hf3 := Lib.hid hf3
        have Hpl2 := Lib.hid hpl2
        obtain ⟨n, hn⟩ : ∃ n, n = l.length := ⟨_, rfl⟩
        have hfi : ¬ (room : Int) ≤ (l.length : Int) := by omega
        clear hf1 hf2 hf3 hh hnew hx hless hend hplen hpl2
        go_enter Try.func43, Try.ntmps43
        go_wp2_with fail
        generalize w.alloc (.cells #[.int .i64 p1, .int .i64 p2] 42) = W0 at B0 x0 hs0 ⊢
        refine (Hhas.out W0 hs0).mono ?_
        rintro e w1' ⟨rfl, B1'⟩
        have hs1' := hs0.new B1'
        have c0 := hs1'.head.cell 0
        have c1 := hs1'.head.cell 1
        simp only [List.getElem?_cons_zero, List.getElem?_cons_succ] at c0 c1
        go_wp2
        go_quiet (fail)
        generalize hW1 : w1'.drewN _ = w1
        have B11 : Below w1'.heap.size w1' w1 := by rw [← hW1]; exact Below.drewN' (Below.refl _ _) _
        clear hW1 c0 c1
        have hs1 := hs1'.new B11
        have x1 := (x0.below B1' x0.lt).below B11 (x0.below B1' x0.lt).lt
        have B01 : Below w.heap.size w w1 := (B0.trans (B1'.mono B0.size)).trans (B11.mono (by have := B0.size; have := B1'.size; omega))
        clear x0 hs0 hs1' B0 B1' B11
        go_wp2
        go_loopw [7, 8, 9, 10] (fun o pu i _ wr => ∃ (k : Nat) (ov : Value), k ≤ n ∧ i = .int .i64 k ∧ ov = o ∧ pu = .bool (decide (x < k)) ∧ wr.ownsRow w1.heap.size 42 2 ov (insK l (p1, p2) x k).length (pairCells (insK l (p1, p2) x k)) ∧ Below w1.heap.size w1 wr) (fun _ _ i _ _ => n - (intOf i).toNat)
        case atStart => exact ⟨0, _, Nat.zero_le _, rfl, rfl, by simp, by rw [insK_zero]; exact World.ownsRow_nil _ _ _ _, Below.refl _ _⟩
        case round =>
          obtain ⟨k, ov, hk, rfl, rfl, rfl, ho, hB⟩ := hrel
          have hsr := hs1.new hB
          have xr := x1.below hB x1.lt
          have hrd := hsr.rd
          have c0 := hsr.head.cell 0
          have b0 := xr.cell 0
          have b1 := xr.cell 1
          simp only [List.getElem?_cons_zero, List.getElem?_cons_succ] at c0 b0 b1
          rw [← hn] at c0 hrd s1 hlen hfull hkle
          have Hn := Lib.hid hn
          have hwr := hB.size
          have hw1 := B01.size
          have hTl := insK_len (l := l) (p := (p1, p2)) (x := x) (k := k) (by rw [← hn]; exact hk)
          obtain ⟨T, hT⟩ : ∃ T, T = (insK l (p1, p2) x k).length := ⟨_, rfl⟩
          rw [← hT] at ho hTl
          have HT := Lib.hid hT
          clear hn
          by_cases hlt : k < n
          · have hkI : (k : Int) < (n : Int) := by omega
            obtain ⟨q, hq⟩ : ∃ q, l[k]? = some q := ⟨_, List.getElem?_eq_getElem (by rw [← Hn.out]; exact hlt)⟩
            obtain ⟨ab, ao, rfl⟩ := hrd.addr (by omega)
            obtain ⟨f0, f1⟩ := hrd.pair Hn.out.symm hlt hq
            have habr : ab < wr.heap.size := hrd.block_lt (by omega)
            have hxlt := xr.lt
            have hle := Hless.out k q hq
            have hcall := fun W => less_any (p1, p2) q W
            have Hq := Lib.hid hq
            rw [hle] at hcall
            obtain ⟨q1, q2⟩ := q
            simp only at f0 f1 hcall
            have Hcall := Lib.hid hcall
            clear hq hT hle hcall
            have hsl : s < wr.heap.size := hsr.head.lt
            rcases Nat.lt_trichotomy k x with hkx | hkx | hkx
            · have e1 : decide (x ≤ k) = false := by simp; omega
              have e2 : decide (x < k) = false := by simp; omega
              rw [e1] at Hcall
              rw [e2]
              clear e1 e2
              have Hsn := Lib.hid (insK_below (p := (p1, p2)) Hq.out hkx)
              go_wp2
              go_region_held3 (fun wx => wx.cell? ⟨s, 0, none⟩ = some (.slice (some ⟨ab, ao, none⟩) n sc) ∧ wx.cell? ⟨w.heap.size, 0, none⟩ = some (.int .i64 p1) ∧ wx.cell? ⟨w.heap.size, 1, none⟩ = some (.int .i64 p2) ∧ wx.cell? ⟨ab, ao + k * 2, none⟩ = some (.int .i64 q1) ∧ wx.cell? ⟨ab, ao + k * 2 + 1, none⟩ = some (.int .i64 q2))
                (first | go_keep | exact ⟨(B5.cell (p := ⟨s, 0, none⟩) hsl).trans c0, (B5.cell (p := ⟨w.heap.size, 0, none⟩) hxlt).trans b0, (B5.cell (p := ⟨w.heap.size, 1, none⟩) hxlt).trans b1, (B5.cell (p := ⟨ab, ao + k * 2, none⟩) habr).trans f0, (B5.cell (p := ⟨ab, ao + k * 2 + 1, none⟩) habr).trans f1⟩)
                ((go_at_call 69; refine (Hcall.out _).mono ?_; rintro e w5 ⟨rfl, B5⟩))
              have BW2 : Below wr.heap.size wr w5 := ((Below.refl _ wr).drew).trans (B5.mono (by simp))
              have o2 := own_new ho BW2
              have hs2 := hsr.new BW2
              have g0 := hs2.head.cell 0
              have r0 := (BW2.cell (p := ⟨ab, ao + k * 2, none⟩) habr).trans f0
              have r1 := (BW2.cell (p := ⟨ab, ao + k * 2 + 1, none⟩) habr).trans f1
              have y0 := (BW2.cell (p := ⟨w.heap.size, 0, none⟩) hxlt).trans b0
              have y1 := (BW2.cell (p := ⟨w.heap.size, 1, none⟩) hxlt).trans b1
              simp only [List.getElem?_cons_zero] at g0
              rw [← Hn.out] at g0
              have hw2 := BW2.size
              have hB5 := hB.trans (BW2.mono hwr)
              clear B5
              go_wp2_with (at_builtin; refine wpList_append_own _ rfl _ _ 34 rfl w1.heap.size 42 i0 (.agg #[.int .i64 0, .int .i64 0]) 2 16 Try.underlying34 hi hz0 hz1 hz2 rfl (by decide) _ _ _ rfl (o2.alloc _) ⟨w5.heap.size, 0, none⟩ 1 1 [.int .i64 q1, .int .i64 q2] rfl rfl (World.news_of_block (cs := #[.int .i64 q1, .int .i64 q2]) (t := 42) (fr := (0, 0)) (heap_alloc_new w5 _)) (by simp [Value.oneCell']) (by unfold maxLen; omega) (by omega) (by simp; omega) ?_; intro v6 w6 o6 g6 _)
              have hB6 := (hB5.alloc (by omega) (.cells #[.int .i64 q1, .int .i64 q2] 42)).grown g6 (by simp; omega) (fun r hr => ownBlock_ge o2 hr)
              go_roundw
              case rel => exact ⟨k + 1, _, by omega, by go_num, rfl, by simp; omega, by rw [Hsn.out, List.length_append, pairs_append, ← HT.out]; exact o6, hB6⟩
              case measure => simp [intOf]; omega
            · subst hkx
              have e1 : decide (k ≤ k) = true := by simp
              have e2 : decide (k < k) = false := by simp
              rw [e1] at Hcall
              rw [e2]
              clear e1 e2
              have Hsn := Lib.hid (insK_at (p := (p1, p2)) Hq.out)
              go_wp2
              go_region_held3 (fun wx => wx.cell? ⟨s, 0, none⟩ = some (.slice (some ⟨ab, ao, none⟩) n sc) ∧ wx.cell? ⟨w.heap.size, 0, none⟩ = some (.int .i64 p1) ∧ wx.cell? ⟨w.heap.size, 1, none⟩ = some (.int .i64 p2) ∧ wx.cell? ⟨ab, ao + k * 2, none⟩ = some (.int .i64 q1) ∧ wx.cell? ⟨ab, ao + k * 2 + 1, none⟩ = some (.int .i64 q2))
                (first | go_keep | exact ⟨(B5.cell (p := ⟨s, 0, none⟩) hsl).trans c0, (B5.cell (p := ⟨w.heap.size, 0, none⟩) hxlt).trans b0, (B5.cell (p := ⟨w.heap.size, 1, none⟩) hxlt).trans b1, (B5.cell (p := ⟨ab, ao + k * 2, none⟩) habr).trans f0, (B5.cell (p := ⟨ab, ao + k * 2 + 1, none⟩) habr).trans f1⟩)
                ((go_at_call 69; refine (Hcall.out _).mono ?_; rintro e w5 ⟨rfl, B5⟩))
              have BW2 : Below wr.heap.size wr w5 := ((Below.refl _ wr).drew).trans (B5.mono (by simp))
              have o2 := own_new ho BW2
              have hs2 := hsr.new BW2
              have g0 := hs2.head.cell 0
              have r0 := (BW2.cell (p := ⟨ab, ao + k * 2, none⟩) habr).trans f0
              have r1 := (BW2.cell (p := ⟨ab, ao + k * 2 + 1, none⟩) habr).trans f1
              have y0 := (BW2.cell (p := ⟨w.heap.size, 0, none⟩) hxlt).trans b0
              have y1 := (BW2.cell (p := ⟨w.heap.size, 1, none⟩) hxlt).trans b1
              simp only [List.getElem?_cons_zero] at g0
              rw [← Hn.out] at g0
              have hw2 := BW2.size
              have hB5 := hB.trans (BW2.mono hwr)
              clear B5
              go_wp2_with (first
                | ((with_reducible refine (show wpList _ _ _ (⟨some 56, _, _, _, _, _⟩ :: _) _ _ from ?_)); at_builtin; refine wpList_append_own _ rfl _ _ 34 rfl w1.heap.size 42 i0 (.agg #[.int .i64 0, .int .i64 0]) 2 16 Try.underlying34 hi hz0 hz1 hz2 rfl (by decide) _ _ _ rfl (o2.alloc _) ⟨w5.heap.size, 0, none⟩ 1 1 [.int .i64 p1, .int .i64 p2] rfl rfl (World.news_of_block (cs := #[.int .i64 p1, .int .i64 p2]) (t := 42) (fr := (0, 0)) (heap_alloc_new w5 _)) (by simp [Value.oneCell']) (by unfold maxLen; omega) (by omega) (by simp; omega) ?_; intro v6 w6 o6 g6 _
                   have hB6 := (hB5.alloc (by omega) (.cells #[.int .i64 p1, .int .i64 p2] 42)).grown g6 (by simp; omega) (fun r hr => ownBlock_ge o2 hr)
                   have hs6 := hs1.new hB6
                   have k0 := hs6.head.cell 0
                   obtain ⟨k1, k2⟩ := hs6.rd.pair rfl (by rw [← Hn.out]; exact hlt) Hq.out
                   simp only [List.getElem?_cons_zero] at k0 k1 k2
                   rw [← Hn.out] at k0
                   have hw6 := hB6.size)
                | ((with_reducible refine (show wpList _ _ _ (⟨some 66, _, _, _, _, _⟩ :: _) _ _ from ?_)); refine wpList_append_own _ rfl _ _ 34 rfl w1.heap.size 42 i0 (.agg #[.int .i64 0, .int .i64 0]) 2 16 Try.underlying34 hi hz0 hz1 hz2 rfl (by decide) _ _ _ rfl (o6.alloc _) ⟨w6.heap.size, 0, none⟩ 1 1 [.int .i64 q1, .int .i64 q2] rfl rfl (World.news_of_block (cs := #[.int .i64 q1, .int .i64 q2]) (t := 42) (fr := (0, 0)) (heap_alloc_new w6 _)) (by simp [Value.oneCell']) (by unfold maxLen; omega) (by omega) (by simp; omega) ?_; intro v7 w7 o7 g7 _))
              have hB7 := (hB6.alloc (by omega) (.cells #[.int .i64 q1, .int .i64 q2] 42)).grown g7 (by simp; omega) (fun r hr => ownBlock_ge o6 hr)
              go_roundw
              case rel => exact ⟨k + 1, _, by omega, by go_num, rfl, by simp, by rw [Hsn.out, List.length_append, List.length_append, pairs_append, pairs_append, ← HT.out]; exact o7, hB7⟩
              case measure => simp [intOf]; omega
            · have e1 : decide (x ≤ k) = true := by simp; omega
              have e2 : decide (x < k) = true := by simp; omega
              rw [e1] at Hcall
              rw [e2]
              clear e1 e2
              have Hsn := Lib.hid (insK_above (p := (p1, p2)) Hq.out hkx)
              go_wp2
              go_region_held3 (fun wx => wx.cell? ⟨s, 0, none⟩ = some (.slice (some ⟨ab, ao, none⟩) n sc) ∧ wx.cell? ⟨w.heap.size, 0, none⟩ = some (.int .i64 p1) ∧ wx.cell? ⟨w.heap.size, 1, none⟩ = some (.int .i64 p2) ∧ wx.cell? ⟨ab, ao + k * 2, none⟩ = some (.int .i64 q1) ∧ wx.cell? ⟨ab, ao + k * 2 + 1, none⟩ = some (.int .i64 q2))
                (first | go_keep | exact ⟨(B5.cell (p := ⟨s, 0, none⟩) hsl).trans c0, (B5.cell (p := ⟨w.heap.size, 0, none⟩) hxlt).trans b0, (B5.cell (p := ⟨w.heap.size, 1, none⟩) hxlt).trans b1, (B5.cell (p := ⟨ab, ao + k * 2, none⟩) habr).trans f0, (B5.cell (p := ⟨ab, ao + k * 2 + 1, none⟩) habr).trans f1⟩)
                ((go_at_call 69; refine (Hcall.out _).mono ?_; rintro e w5 ⟨rfl, B5⟩))
              have BW2 : Below wr.heap.size wr w5 := ((Below.refl _ wr).drew).trans (B5.mono (by simp))
              have o2 := own_new ho BW2
              have hs2 := hsr.new BW2
              have g0 := hs2.head.cell 0
              have r0 := (BW2.cell (p := ⟨ab, ao + k * 2, none⟩) habr).trans f0
              have r1 := (BW2.cell (p := ⟨ab, ao + k * 2 + 1, none⟩) habr).trans f1
              have y0 := (BW2.cell (p := ⟨w.heap.size, 0, none⟩) hxlt).trans b0
              have y1 := (BW2.cell (p := ⟨w.heap.size, 1, none⟩) hxlt).trans b1
              simp only [List.getElem?_cons_zero] at g0
              rw [← Hn.out] at g0
              have hw2 := BW2.size
              have hB5 := hB.trans (BW2.mono hwr)
              clear B5
              go_wp2_with (at_builtin; refine wpList_append_own _ rfl _ _ 34 rfl w1.heap.size 42 i0 (.agg #[.int .i64 0, .int .i64 0]) 2 16 Try.underlying34 hi hz0 hz1 hz2 rfl (by decide) _ _ _ rfl (o2.alloc _) ⟨w5.heap.size, 0, none⟩ 1 1 [.int .i64 q1, .int .i64 q2] rfl rfl (World.news_of_block (cs := #[.int .i64 q1, .int .i64 q2]) (t := 42) (fr := (0, 0)) (heap_alloc_new w5 _)) (by simp [Value.oneCell']) (by unfold maxLen; omega) (by omega) (by simp; omega) ?_; intro v6 w6 o6 g6 _)
              have hB6 := (hB5.alloc (by omega) (.cells #[.int .i64 q1, .int .i64 q2] 42)).grown g6 (by simp; omega) (fun r hr => ownBlock_ge o2 hr)
              go_roundw
              case rel => exact ⟨k + 1, _, by omega, by go_num, rfl, by simp; omega, by rw [Hsn.out, List.length_append, pairs_append, ← HT.out]; exact o6, hB6⟩
              case measure => simp [intOf]; omega
          · obtain rfl : k = n := by omega
            have hkI : ¬ (k : Int) < (k : Int) := by omega
            have hBw : Below w.heap.size w wr := B01.trans (hB.mono hw1)
            have hsl : s < wr.heap.size := hsr.head.lt
            have f0 := hsr.head.frozen 0
            obtain ⟨oa, oc, rfl, _, _⟩ := (Rd.of_own ho).shape
            by_cases hxk : x < k
            · have e2 : decide (x < k) = true := by simp [hxk]
              rw [e2]
              have hfin : insK l (p1, p2) x k = putS room l (p1, p2) := by
                rw [Hf3.out, Hn.out]
                exact insK_end_put (by rw [← Hn.out]; exact hxk)
              have hTe : T = l.length + 1 := by rw [HT.out, hfin, Hpl2.out]
              rw [hfin] at ho
              have hr := Hend.out wr T _ hBw (by rw [Hpl2.out, hTe]) (own_base ho hw1) (by have := Hn.out; omega)
              have Hr := Lib.hid hr
              clear hT hr hfin hTe e2
              go_wp2
              go_ret2
              exact ⟨by rw [Hf1.out, Hf2.out]; rfl, Hr.out⟩
            · have e2 : decide (x < k) = false := by simp; omega
              rw [e2]
              have hfin : insK l (p1, p2) x k ++ [(p1, p2)] = putS room l (p1, p2) := by
                rw [Hf3.out, Hn.out]
                exact insK_end_not (by rw [← Hn.out]; omega)
              have hTe : T + 1 = l.length + 1 := by
                have := congrArg List.length hfin
                rw [List.length_append, ← HT.out, Hpl2.out] at this
                exact this
              have Hfin := Lib.hid hfin
              have HTe := Lib.hid hTe
              clear hT hfin hTe e2
              go_wp2_with (at_builtin; refine wpList_append_own _ rfl _ _ 34 rfl w1.heap.size 42 i0 (.agg #[.int .i64 0, .int .i64 0]) 2 16 Try.underlying34 hi hz0 hz1 hz2 rfl (by decide) _ _ _ rfl (ho.alloc _) ⟨wr.heap.size, 0, none⟩ 1 1 [.int .i64 p1, .int .i64 p2] rfl rfl (World.news_of_block (cs := #[.int .i64 p1, .int .i64 p2]) (t := 42) (fr := (0, 0)) (heap_alloc_new wr _)) (by simp [Value.oneCell']) (by unfold maxLen; omega) (by omega) (by simp; omega) ?_
                           intro v6 w6 o6 g6 _
                           obtain ⟨na, nc, rfl, _, _⟩ := (Rd.of_own o6).shape
                           have hB6 := (hB.alloc (by omega) (.cells #[.int .i64 p1, .int .i64 p2] 42)).grown g6 (by simp; omega) (fun r hr => ownBlock_ge ho hr)
                           have hs6 := hs1.new hB6
                           have k0 := hs6.head.cell 0
                           have k1 := hs6.head.frozen 0
                           simp only [List.getElem?_cons_zero] at k0)
              have hpc := pairs_append (insK l (p1, p2) x k) [(p1, p2)]
              rw [Hfin.out] at hpc
              have o6' : w6.ownsRow w1.heap.size 42 2 (.slice na (T + 1) nc) (T + 1) (pairCells (putS room l (p1, p2))) := by rw [hpc]; exact o6
              have hr := Hend.out w6 (T + 1) _ (B01.trans (hB6.mono hw1)) (by rw [Hpl2.out, HTe.out]) (own_base o6' hw1) (by have := Hn.out; have := HTe.out; omega)
              go_ret2
              exact ⟨by rw [Hf1.out, Hf2.out]; rfl, hr⟩
  · have hge : p2 ≤ p1 := by omega
    have hf1 : canPut room l (p1, p2) = false := by simp [canPut, hlt12]
    have hf2 : putE room l (p1, p2) = 1 := by simp [putE, hlt12]
    have hf3 : putS room l (p1, p2) = l := by simp [putS, hf1]
    have Hf1 := Lib.hid hf1
    have Hf2 := Lib.hid hf2
    have Hf3 := Lib.hid hf3
    clear hf1 hf2 hf3
    go_enter Try.func43, Try.ntmps43
    go_wp2
    go_ret2
    exact ⟨by rw [Hf1.out, Hf2.out]; rfl, rpost_same Hf3.out hs B0⟩
end Go.Proofs.Ytlcmjpligaiadaa
