/- slices.DeleteFunc over pairs, walked; Without. -/
import Derived.Test.YtlcmjpligaiadaaWa
import Derived.Test.YtlcmjpligaiadaaW5
namespace Go.Proofs.Ytlcmjpligaiadaa
open Go.RowKit
def DelPost (base : Nat) (sv : Value) (l : List Pr) (h : Int) (w : World) (e : Ending) (w' : World) : Prop :=
  ∃ v', e = .returned v' ∧ w'.ownsRow base 42 2 v' (woP l h).length (pairCells (woP l h)) ∧ Mod (fun j => sv.ownBlock = some j) w w' ∧ v'.ownBlock = sv.ownBlock
set_option maxRecDepth 100000 in
set_option maxHeartbeats 4000000 in
theorem delfunc_any (h : Int) (hb base : Nat) (sv : Value) (n : Nat) (l : List Pr) (hl : l.length = n) (hn : n ≤ 4096) (w : World) (hbx : Blk w hb 40 [.int .i64 h]) (ho : w.ownsRow base 42 2 sv n (pairCells l)) :
    Calls Try.prog 63 #[sv, .func (.func 64) #[] #[.pointer (some ⟨hb, 0, none⟩)]] w (DelPost base sv l h w) := by
  have hrd := Rd.of_own ho
  have hne := own_ne ho hbx (by decide)
  have hcall := index_any h hb sv n l hl hn w hbx hrd
  have hbl := hbx.lt
  cases hf : l.findIdx? (ofH h) with
  | none =>
    obtain ⟨sa, sc, rfl, s1, s2⟩ := hrd.shape
    have hi : idxF l h = -1 := by simp [idxF, hf]
    rw [hi] at hcall
    have hw : woP l h = l := woP_all fun p hp => by
      rw [List.findIdx?_eq_none_iff] at hf
      simpa using hf p hp
    have Hw := Lib.hid hw
    have Hl := Lib.hid hl
    clear hw hl hi hf
    go_enter Try.func63, Try.ntmps63
    go_wp2_with fail
    refine hcall.mono ?_
    rintro e w1 ⟨rfl, B1⟩
    go_wp2
    go_ret
    exact ⟨_, rfl, by rw [Hw.out, Hl.out]; exact own_new ho B1, below_mod B1, rfl⟩
  | some i0 =>
    have hi : idxF l h = i0 := by simp [idxF, hf]
    rw [hi] at hcall
    have hd0 := DelTo.start hl hf
    have hi0 := hd0.jn
    obtain ⟨b, c, rfl⟩ := own_shape ho (by omega)
    obtain ⟨E, hcur, hEl, hnc, hcm, hbb⟩ := own_cur ho
    have hbh : b ≠ hb := fun e => hne (by rw [e]; rfl)
    have Hl := Lib.hid hl
    have Hd0 := Lib.hid hd0
    have HEl := Lib.hid hEl
    unfold maxLen at hcm
    have hi1 : ((i0 : Int) == -1) = false := beq_eq_false_iff_ne.2 (by omega)
    clear hl hi hf hd0 hEl
    go_enter Try.func63, Try.ntmps63
    go_wp2_with fail
    refine hcall.mono ?_
    rintro e w1 ⟨rfl, B1⟩
    have hcur1 := hcur.below B1 hcur.lt
    have hbx1 := hbx.below B1 hbl
    have hs1 := B1.size
    go_wp2_with fail
    go_loopw [5, 6, 7] (fun i j _ wr => ∃ (jn ix : Nat) (X : List Pr), i = .int .i64 ix ∧ j = .int .i64 jn ∧ Hid (DelTo l h n jn ix X) ∧ ix < jn ∧ jn ≤ n ∧ Blk wr b 42 (pairCells X ++ E) ∧ Mod (fun r => r = b) w wr) (fun _ j _ _ => n - (intOf j).toNat)
    case atStart => exact ⟨i0 + 1, i0, l, rfl, by go_num, Lib.hid Hd0.out, by omega, hi0, hcur1, below_mod B1⟩
    case round =>
      obtain ⟨j, i, X, rfl, rfl, hD, hij, hjn, hX, hM⟩ := hrel
      have hXl := hD.out.len
      have HXl := Lib.hid hXl
      by_cases hlt : j < n
      · obtain ⟨p, hp⟩ : ∃ p, l[j]? = some p := ⟨_, List.getElem?_eq_getElem (by rw [Hl.out]; exact hlt)⟩
        have hpX : X[j]? = some p := (hD.out.rest j (Nat.le_refl _)).trans hp
        obtain ⟨g0, g1⟩ := pairs_get hpX
        have hpl := pairs_len X
        have f0 := hX.cell (j * 2)
        have f1 := hX.cell (j * 2 + 1)
        rw [List.getElem?_append_left (by omega), g0] at f0
        rw [List.getElem?_append_left (by omega), g1] at f1
        have hdrop := fun hf => hD.out.drop Hl.out hp hf
        have hkeep := fun hf => hD.out.keep Hl.out hp hf
        have hset := pairs_set X i p (by omega)
        obtain ⟨p1, p2⟩ := p
        simp only at f0 f1 hset
        have Hdrop := Lib.hid hdrop
        have Hkeep := Lib.hid hkeep
        have Hset := Lib.hid hset
        have hjI : (j : Int) < (n : Int) := by omega
        have hiI : (i : Int) < (n : Int) := by omega
        have hbxr := hbx.mod hM (fun e => hbh (Eq.symm e))
        have hbr := hX.lt
        have hsr := hM.size
        have hpll := Lib.hid hpl
        clear hp hpX g0 g1 hdrop hkeep hset hXl hpl
        go_wp2_with fail
        obtain ⟨W1, hW1⟩ : ∃ W1, wr.alloc (.cells #[.int .i64 p1, .int .i64 p2] 42) = W1 := ⟨_, rfl⟩
        have z0 : Blk W1 wr.heap.size 42 [.int .i64 p1, .int .i64 p2] := by rw [← hW1]; exact Blk.new wr 42 [_, _]
        have BW1 : Below wr.heap.size wr W1 := by rw [← hW1]; exact (Below.refl _ wr).alloc (Nat.le_refl _) _
        rw [hW1]
        clear hW1
        refine (del_any h hb p1 p2 W1 (hbxr.below BW1 hbxr.lt)).mono ?_
        rintro e w5 ⟨rfl, B5⟩
        have z5 := z0.below B5 z0.lt
        have e0 := z5.cell 0
        have e1 := z5.cell 1
        simp only [List.getElem?_cons_zero, List.getElem?_cons_succ] at e0 e1
        have B15 : Below wr.heap.size wr w5 := BW1.trans (B5.mono BW1.size)
        have hX5 := hX.below B15 hbr
        have hM5 := hM.trans (below_mod B15)
        have k0 := hX5.cell (i * 2)
        have k1 := hX5.cell (i * 2 + 1)
        have k2 := hX5.frozen (i * 2)
        have k3 := hX5.frozen (i * 2 + 1)
        cases hof : ofH h (p1, p2) with
        | true =>
          have hfin := Lib.hid (Hdrop.out hof)
          clear hof
          go_wp2
          go_roundw
          case rel => exact ⟨j + 1, i, X, rfl, by go_num, Lib.hid hfin.out, by omega, by omega, hX5, hM5⟩
          case measure => simp [intOf]; omega
        | false =>
          have hfin := Lib.hid (Hkeep.out hof)
          have hbnd : i * 2 + 1 < (pairCells X).length := by rw [hpll.out, HXl.out]; omega
          rw [List.getElem?_append_left (by omega), List.getElem?_eq_getElem (by omega)] at k0
          rw [List.getElem?_append_left (by omega), List.getElem?_eq_getElem hbnd] at k1
          have Hbnd := Lib.hid hbnd
          clear hof
          go_wp2
          have hX6 := (hX5.set (i * 2) (.int .i64 p1)).set (i * 2 + 1) (.int .i64 p2)
          rw [List.set_append_left _ _ (by have := Hbnd.out; omega), List.set_append_left _ _ (by have := Hbnd.out; simp; omega), Hset.out] at hX6
          go_roundw
          case rel => exact ⟨j + 1, i + 1, X.set i (p1, p2), by go_num, by go_num, Lib.hid hfin.out, by omega, by omega, hX6, (hM5.setCell (p := ⟨b, i * 2, none⟩) (fun _ => rfl) _).setCell (p := ⟨b, i * 2 + 1, none⟩) (fun _ => rfl) _⟩
          case measure => simp [intOf]; omega
      · obtain rfl : n = j := by omega
        have hkept := hD.out.kept
        rw [show l.take n = l by rw [← Hl.out, List.take_length]] at hkept
        have hlen := hD.out.i
        rw [show l.take n = l by rw [← Hl.out, List.take_length]] at hlen
        have hXd : pairCells X ++ E = pairCells (X.take i) ++ (pairCells (X.drop i) ++ E) := by
          rw [← List.append_assoc, ← pairs_append, List.take_append_drop]
        rw [hXd] at hX
        have hl1 : (pairCells (X.take i)).length = i * 2 := by rw [pairs_len, List.length_take, HXl.out]; omega
        have hl2 : (pairCells (X.drop i)).length = (n - i) * 2 := by rw [pairs_len, List.length_drop, HXl.out]
        obtain ⟨Z, hZ⟩ : ∃ Z, Z = (Builtin.zeroCells #[Value.int .i64 0, .int .i64 0] (n - i)).toList := ⟨_, rfl⟩
        have hZl : Z.length = (n - i) * 2 := by rw [hZ, zeroCells_len]; rfl
        have hsp : splice (pairCells (X.take i) ++ (pairCells (X.drop i) ++ E)) (i * 2) Z = pairCells (X.take i) ++ (Z ++ E) := by
          rw [← hl1]
          exact splice_at _ _ _ _ (by rw [hZl, hl2])
        have hclr : ∀ ty, (Builtin.clear_ #[34] ty #[.slice (some ⟨b, i * 2, none⟩) (n - i) (c - i)]).run Try.prog wr = .ok (.tuple #[]) (wr.setRow b (pairCells (X.take i) ++ (Z ++ E)).toArray) := fun ty => by
          have := run_clearK (P := Try.prog) wr 34 ty 42 (.agg #[.int .i64 0, .int .i64 0]) Try.underlying34 Try.zeroValue42 b (i * 2) (n - i) (c - i) _ 42 hX (by omega) (by
            rw [List.length_append, List.length_append, hl1, hl2]
            show i * 2 + (n - i) * 2 ≤ _
            omega) (zeros_one _)
          rw [show (Value.agg #[.int .i64 0, .int .i64 0]).cells = #[Value.int .i64 0, .int .i64 0] from rfl, ← hZ, hsp] at this
          exact this
        have hX' : Blk (wr.setRow b (pairCells (X.take i) ++ (Z ++ E)).toArray) b 42 (pairCells (X.take i) ++ (Z ++ E)) := by
          unfold Blk; exact setRow_heap wr b _ _ 42 _ hX
        have hM' : Mod (fun r => r = b) w (wr.setRow b (pairCells (X.take i) ++ (Z ++ E)).toArray) := hM.trans ⟨rfl, rfl, rfl, by simp [World.setRow], fun j hj hne => setRow_other wr b j _ hne⟩
        generalize wr.setRow b (pairCells (X.take i) ++ (Z ++ E)).toArray = W' at hclr hX' hM'
        rw [hkept] at hX' hl1
        have hXl' := Lib.hid hl1
        have hZl' := Lib.hid hZl
        have Hlen := Lib.hid hlen
        have hin : i < n := hij
        have q1 : (i : Int) ≤ (n : Int) := by omega
        have q2 : ¬ c = i := by omega
        have q3 : (i : Int) ≤ (c : Int) := by omega
        clear hkept hXd hX hl1 hl2 hZ hZl hsp hlen HXl
        go_wp2_with (simp only [hclr])
        go_ret
        refine ⟨_, rfl, ?_, hM'.mono (fun r _ e => by subst e; rfl), rfl⟩
        rw [Hlen.out]
        exact own_of_cur hX' hXl'.out (by rw [List.length_append, hZl'.out, HEl.out, ← Nat.add_mul]; congr 1; omega) (by omega) (by unfold maxLen; omega) hbb
def WoPost (s base room : Nat) (v : Value) (l : List Pr) (h : Int) (w : World) (e : Ending) (w' : World) : Prop :=
  e = .returned (.int .i64 ((l.length : Int) - ((woP l h).length : Int))) ∧ ∃ v', SetAt w' s base v' room (woP l h) ∧ Mod (Foot s v) w w' ∧ ∀ j, Foot s v' j → Foot s v j ∨ w.heap.size ≤ j
set_option maxRecDepth 100000 in
set_option maxHeartbeats 4000000 in
theorem without_any (s base room : Nat) (v : Value) (l : List Pr) (h : Int) (w : World) (hs : SetAt w s base v room l) :
    Calls Try.prog 23 #[.pointer (some ⟨s, 0, none⟩), .int .i64 h] w (WoPost s base room v l h w) := by
  have hlen := hs.len
  have hrm := hs.room
  have hfull := hs.full
  have hrise := hs.rising
  obtain ⟨sa, sc, rfl, s1, s2⟩ := hs.rd.shape
  have c0 := hs.head.cell 0
  simp only [List.getElem?_cons_zero] at c0
  obtain ⟨n, hn⟩ : ∃ n, n = l.length := ⟨_, rfl⟩
  have hown := hs.own
  have hhead := hs.head
  rw [← hn] at s1 c0 hlen hown hhead
  have hle := woP_le l h
  obtain ⟨m, hm⟩ : ∃ m, m = (woP l h).length := ⟨_, rfl⟩
  rw [← hn, ← hm] at hle
  have Hn := Lib.hid hn
  have Hm := Lib.hid hm
  have hlt := hs.head.lt
  have hsn := hs.ne
  rw [← hn] at hsn
  have Hrise := Lib.hid hrise
  clear hn hm hrise
  go_enter Try.func23, Try.ntmps23
  go_wp2_with fail
  obtain ⟨W0, hW0⟩ : ∃ W0, w.alloc (.cells #[.int .i64 h] 40) = W0 := ⟨_, rfl⟩
  have x0 : Blk W0 w.heap.size 40 [.int .i64 h] := by rw [← hW0]; exact Blk.new w 40 [_]
  have B0 : Below w.heap.size w W0 := by rw [← hW0]; exact (Below.refl _ w).alloc (Nat.le_refl _) _
  rw [hW0]
  clear hW0
  have hown0 := own_new hown B0
  have hd0 := hhead.below B0 hlt
  refine (delfunc_any h w.heap.size base (.slice sa n sc) n l Hn.out.symm hlen W0 x0 hown0).mono ?_
  rintro e w1 ⟨v1, rfl, o1, m1, q1⟩
  obtain ⟨na, nc, rfl, n1, n2⟩ := (Rd.of_own o1).shape
  have hd1 := hd0.mod m1 hsn
  have k0 := hd1.cell 0
  have f0 := hd1.frozen 0
  have hn1 := own_ne o1 hd1 (by decide)
  simp only [List.getElem?_cons_zero] at k0
  rw [← Hm.out] at o1 q1 n1 hn1 ⊢
  go_wp2
  go_ret
  refine ⟨by rw [← Hn.out, ← Hm.out]; rfl, _, ⟨hd1.set 0 _, ?_, Hrise.out.filter _, ?_, hrm⟩, ?_, ?_⟩
  · rw [← Hm.out]
    exact ownsRow_setCell_other (a := ⟨s, 0, none⟩) o1 hn1 _
  · rw [← Hm.out]
    have := Hn.out
    omega
  · rw [← Hn.out]
    exact (((below_mod B0).trans (m1.mono (fun j _ e => .inr e))).setCell (p := ⟨s, 0, none⟩) (fun _ => .inl rfl) _)
  · rw [← Hn.out]
    rintro j (rfl | e)
    · exact .inl (.inl rfl)
    · exact .inl (.inr (q1 ▸ e))
end Go.Proofs.Ytlcmjpligaiadaa
