/- The reference set's Drop, Without, Beyond. -/
import Derived.Test.YtlcmjpligaiadaaWh
import Derived.Test.YtlcmjpligaiadaaWe
namespace Go.Proofs.Ytlcmjpligaiadaa
open Go.RowKit
/-- What a call that turns one reference set leaves. -/
def RPost (s base room : Nat) (v : Value) (l' : List Pr) (w w' : World) : Prop :=
  ∃ v', RefAt w' s base v' room l' ∧ Mod (Foot s v) w w' ∧ ∀ j, Foot s v' j → Foot s v j ∨ w.heap.size ≤ j
theorem rpost_end {w W : World} {s base room n : Nat} {v ov : Value} {l l' : List Pr} (hb : base ≤ w.heap.size) (hs : RefAt w s base v room l) (hB : Below w.heap.size w W) (hl : l'.length = n) (ho : W.ownsRow w.heap.size 42 2 ov n (pairCells l')) (hf : n ≤ room) :
    RPost s base room v l' w (W.setCell ⟨s, 0, none⟩ ov) := by
  subst hl
  have hd := hs.head.below hB hs.head.lt
  refine ⟨ov, ⟨hd.set 0 _, ?_, hf, hs.room⟩, ((below_mod hB).setCell (p := ⟨s, 0, none⟩) (fun _ => .inl rfl) _), ?_⟩
  · exact own_base (ownsRow_setCell_other (a := ⟨s, 0, none⟩) ho (own_ne ho hd (by decide)) _) hb
  · rintro j (rfl | e)
    · exact .inl (.inl rfl)
    · exact .inr (ownBlock_ge ho e)
set_option maxRecDepth 100000 in
set_option maxHeartbeats 4000000 in
theorem rdrop_any (s base room : Nat) (v : Value) (l : List Pr) (p : Pr) (w : World) (hb : base ≤ w.heap.size) (hs : RefAt w s base v room l) :
    Calls Try.prog 41 #[.pointer (some ⟨s, 0, none⟩), .agg #[.int .i64 p.1, .int .i64 p.2]] w fun e w' => e = .returned (.bool (hasP l p)) ∧ RPost s base room v (drP l p) w w' := by
  obtain ⟨i0, hi, hz0, hz1, hz2⟩ := info_parts info42
  obtain ⟨p1, p2⟩ := p
  have hlen := hs.len
  have hfull := hs.full
  have hend := fun W n ov h1 h2 h3 h4 => rpost_end (W := W) (n := n) (ov := ov) (l' := drP l (p1, p2)) hb hs h1 h2 h3 h4
  obtain ⟨sa, sc, rfl, s1, s2⟩ := hs.rd.shape
  obtain ⟨n, hn⟩ : ∃ n, n = l.length := ⟨_, rfl⟩
  have Hend := Lib.hid hend
  clear hend
  have B0 : Below w.heap.size w (w.alloc (.cells #[.int .i64 p1, .int .i64 p2] 42)) := (Below.refl _ w).alloc (Nat.le_refl _) _
  have x0 : Blk (w.alloc (.cells #[.int .i64 p1, .int .i64 p2] 42)) w.heap.size 42 [.int .i64 p1, .int .i64 p2] := Blk.new w 42 [_, _]
  have hs0 := hs.new B0
  have hhas := fun W (hW : RefAt W s base (.slice sa l.length sc) room l) => rhas_any s base room _ l (p1, p2) W hW
  have Hhas := Lib.hid hhas
  clear hhas
  obtain ⟨z, hz⟩ : ∃ z, z = hasP l (p1, p2) := ⟨_, rfl⟩
  rw [← hz] at Hhas ⊢
  clear hz
  go_enter Try.func41, Try.ntmps41
  go_wp2_with fail
  generalize w.alloc (.cells #[.int .i64 p1, .int .i64 p2] 42) = W0 at B0 x0 hs0 ⊢
  refine (Hhas.out W0 hs0).mono ?_
  rintro e w1 ⟨rfl, B1⟩
  have B01 : Below w.heap.size w w1 := B0.trans (B1.mono B0.size)
  have hs1 := hs0.new B1
  have x1 := x0.below B1 x0.lt
  clear x0 hs0 B0 B1
  go_wp2
  go_loopw [6, 7] (fun o i wr => ∃ (k : Nat) (ov : Value), k ≤ n ∧ i = .int .i64 k ∧ ov = o ∧ wr.ownsRow w1.heap.size 42 2 ov (drP (l.take k) (p1, p2)).length (pairCells (drP (l.take k) (p1, p2))) ∧ Below w1.heap.size w1 wr) (fun _ i _ => n - (intOf i).toNat)
  case atStart => exact ⟨0, _, Nat.zero_le _, rfl, rfl, World.ownsRow_nil _ _ _ _, Below.refl _ _⟩
  case round =>
    obtain ⟨k, ov, hk, rfl, rfl, ho, hB⟩ := hrel
    have hsr := hs1.new hB
    have xr := x1.below hB x1.lt
    have hrd := hsr.rd
    have c0 := hsr.head.cell 0
    have b0 := xr.cell 0
    have b1 := xr.cell 1
    simp only [List.getElem?_cons_zero, List.getElem?_cons_succ] at c0 b0 b1
    rw [← hn] at c0 hrd s1 hlen hfull
    have Hn := Lib.hid hn
    have hwr := hB.size
    have hw1 := B01.size
    clear hn
    by_cases hlt : k < n
    · have hkI : (k : Int) < (n : Int) := by omega
      obtain ⟨q, hq⟩ : ∃ q, l[k]? = some q := ⟨_, List.getElem?_eq_getElem (by rw [← Hn.out]; exact hlt)⟩
      obtain ⟨ab, ao, rfl⟩ := hrd.addr (by omega)
      obtain ⟨f0, f1⟩ := hrd.pair Hn.out.symm hlt hq
      have htk := take_at hq
      have hsn := drP_snoc (l.take k) (p1, p2) q
      rw [← htk] at hsn
      have hTl := drP_le (l.take k) (p1, p2)
      rw [List.length_take] at hTl
      obtain ⟨T, hT⟩ : ∃ T, T = (drP (l.take k) (p1, p2)).length := ⟨_, rfl⟩
      rw [← hT] at ho hTl
      have HT := Lib.hid hT
      have hTk : T ≤ k := by omega
      have habr : ab < wr.heap.size := hrd.block_lt (by omega)
      by_cases he : q = (p1, p2)
      · subst he
        have heq : ∀ w, (binOp .neq 42 (.agg #[.int .i64 p1, .int .i64 p2]) (.agg #[.int .i64 p1, .int .i64 p2])).run Try.prog w = .ok (.bool false) w := fun w => by
          rw [nePair]; simp
        have hgd := guard42
        rw [if_pos rfl] at hsn
        have Hsn := Lib.hid hsn
        simp only at f0 f1
        clear hq htk hT hsn hTl
        go_wp2
        go_quiet (fail)
        go_wp2
        go_roundw
        case rel => exact ⟨k + 1, _, by omega, by go_num, rfl, by rw [Hsn.out, ← HT.out]; exact own_new ho (Below.drewN' (Below.refl _ _) _), Below.drewN' hB _⟩
        case measure => simp [intOf]; omega
      · obtain ⟨q1, q2⟩ := q
        have heq : ∀ w, (binOp .neq 42 (.agg #[.int .i64 q1, .int .i64 q2]) (.agg #[.int .i64 p1, .int .i64 p2])).run Try.prog w = .ok (.bool true) w := fun w => by
          rw [nePair]; simp only [Prod.mk.injEq] at he; simp; omega
        have hgd := guard42
        rw [if_neg he] at hsn
        have Hsn := Lib.hid hsn
        simp only at f0 f1
        clear hq htk hT hsn hTl he
        go_wp2
        go_quiet (fail)
        generalize hW2 : wr.drewN _ = W2
        have BW2 : Below wr.heap.size wr W2 := by rw [← hW2]; exact Below.drewN' (Below.refl _ _) _
        clear hW2
        have o2 := own_new ho BW2
        have hs2 := hsr.new BW2
        have g0 := hs2.head.cell 0
        have r0 := (BW2.cell (p := ⟨ab, ao + k * 2, none⟩) habr).trans f0
        have r1 := (BW2.cell (p := ⟨ab, ao + k * 2 + 1, none⟩) habr).trans f1
        simp only [List.getElem?_cons_zero] at g0
        rw [← Hn.out] at g0
        have hw2 := BW2.size
        go_wp2_with (at_builtin; refine wpList_append_own _ rfl _ _ 34 rfl w1.heap.size 42 i0 (.agg #[.int .i64 0, .int .i64 0]) 2 16 Try.underlying34 hi hz0 hz1 hz2 rfl (by decide) _ _ _ rfl (o2.alloc _) ⟨W2.heap.size, 0, none⟩ 1 1 [.int .i64 q1, .int .i64 q2] rfl rfl (World.news_of_block (cs := #[.int .i64 q1, .int .i64 q2]) (t := 42) (fr := (0, 0)) (heap_alloc_new W2 _)) (by simp [Value.oneCell']) (by unfold maxLen; omega) (by omega) (by simp; omega) ?_; intro v' w3 o3 g3 _)
        have hB3 := ((hB.trans (BW2.mono hwr)).alloc (by omega) (.cells #[.int .i64 q1, .int .i64 q2] 42)).grown g3 (by simp; omega) (fun r hr => ownBlock_ge o2 hr)
        go_roundw
        case rel => exact ⟨k + 1, _, by omega, by go_num, rfl, by rw [Hsn.out, List.length_append, pairs_append, ← HT.out]; exact o3, hB3⟩
        case measure => simp [intOf]; omega
    · obtain rfl : k = n := by omega
      have hkI : ¬ (k : Int) < (k : Int) := by omega
      rw [Hn.out, List.take_length] at ho
      have hTl := drP_le l (p1, p2)
      have hBw : Below w.heap.size w wr := B01.trans (hB.mono hw1)
      have hf0 := hsr.head.frozen 0
      obtain ⟨T, hT⟩ : ∃ T, T = (drP l (p1, p2)).length := ⟨_, rfl⟩
      rw [← hT] at ho hTl
      have HT := Lib.hid hT
      have ho := own_base ho hw1
      have hr := Hend.out wr T ov hBw hT.symm ho (by have := Hn.out; omega)
      obtain ⟨oa, oc, rfl, _, _⟩ := (Rd.of_own ho).shape
      have Hr := Lib.hid hr
      clear hT hr
      go_wp2
      go_ret
      exact ⟨rfl, Hr.out⟩
set_option maxRecDepth 100000 in
set_option maxHeartbeats 4000000 in
theorem rwithout_any (s base room : Nat) (v : Value) (l : List Pr) (h : Int) (w : World) (hb : base ≤ w.heap.size) (hs : RefAt w s base v room l) :
    Calls Try.prog 42 #[.pointer (some ⟨s, 0, none⟩), .int .i64 h] w fun e w' => e = .returned (.int .i64 ((l.length : Int) - ((woP l h).length : Int))) ∧ RPost s base room v (woP l h) w w' := by
  obtain ⟨i0, hi, hz0, hz1, hz2⟩ := info_parts info42
  have hlen := hs.len
  have hfull := hs.full
  have hend := fun W n ov h1 h2 h3 h4 => rpost_end (W := W) (n := n) (ov := ov) (l' := woP l h) hb hs h1 h2 h3 h4
  obtain ⟨sa, sc, rfl, s1, s2⟩ := hs.rd.shape
  obtain ⟨n, hn⟩ : ∃ n, n = l.length := ⟨_, rfl⟩
  have Hend := Lib.hid hend
  clear hend
  have hhd := hs.head.cell 0
  have hrd0 := hs.rd
  simp only [List.getElem?_cons_zero] at hhd
  have hm1 : ((woP l h).length : Int) ≤ (l.length : Int) := by have := woP_le l h; omega
  have hnI : (l.length : Int) ≤ 4096 := by omega
  go_enter Try.func42, Try.ntmps42
  go_wp2
  go_loopw [6, 7] (fun o i wr => ∃ (k : Nat) (ov : Value), k ≤ n ∧ i = .int .i64 k ∧ ov = o ∧ wr.ownsRow w.heap.size 42 2 ov (woP (l.take k) h).length (pairCells (woP (l.take k) h)) ∧ Below w.heap.size w wr) (fun _ i _ => n - (intOf i).toNat)
  case atStart => exact ⟨0, _, Nat.zero_le _, rfl, rfl, World.ownsRow_nil _ _ _ _, Below.refl _ _⟩
  case round =>
    obtain ⟨k, ov, hk, rfl, rfl, ho, hB⟩ := hrel
    have hsr := hs.new hB
    have hrd := hsr.rd
    have c0 := hsr.head.cell 0
    simp only [List.getElem?_cons_zero] at c0
    rw [← hn] at c0 hrd s1 hlen hfull hm1 hnI
    have Hn := Lib.hid hn
    have hwr := hB.size
    clear hn
    by_cases hlt : k < n
    · have hkI : (k : Int) < (n : Int) := by omega
      obtain ⟨q, hq⟩ : ∃ q, l[k]? = some q := ⟨_, List.getElem?_eq_getElem (by rw [← Hn.out]; exact hlt)⟩
      obtain ⟨ab, ao, rfl⟩ := hrd.addr (by omega)
      obtain ⟨f0, f1⟩ := hrd.pair Hn.out.symm hlt hq
      have htk := take_at hq
      have hsn := woP_snoc (l.take k) h q
      rw [← htk] at hsn
      have hTl := woP_le (l.take k) h
      rw [List.length_take] at hTl
      obtain ⟨T, hT⟩ : ∃ T, T = (woP (l.take k) h).length := ⟨_, rfl⟩
      rw [← hT] at ho hTl
      have HT := Lib.hid hT
      have hTk : T ≤ k := by omega
      have habr : ab < wr.heap.size := hrd.block_lt (by omega)
      obtain ⟨q1, q2⟩ := q
      simp only at f0 f1
      by_cases he : q1 = h ∨ q2 = h
      · have hof : ofH h (q1, q2) = true := by simpa [ofH] using he
        rw [if_pos hof] at hsn
        have Hsn := Lib.hid hsn
        by_cases he1 : q1 = h
        · have e1 : (q1 == h) = true := by simpa using he1
          have e1' : (q1 != h) = false := by simpa using he1
          clear hq htk hT hsn hTl he hof he1
          go_wp2
          go_roundw
          case rel => exact ⟨k + 1, _, by omega, by go_num, rfl, by rw [Hsn.out, ← HT.out]; exact ho, hB⟩
          case measure => simp [intOf]; omega
        · have e1 : (q1 == h) = false := by simpa using he1
          have he2 : q2 = h := by omega
          have e2 : (q2 == h) = true := by simpa using he2
          have e1' : (q1 != h) = true := by simpa using he1
          have e2' : (q2 != h) = false := by simpa using he2
          clear hq htk hT hsn hTl he hof he1 he2
          go_wp2
          go_roundw
          case rel => exact ⟨k + 1, _, by omega, by go_num, rfl, by rw [Hsn.out, ← HT.out]; exact ho, hB⟩
          case measure => simp [intOf]; omega
      · have hof : ¬ ofH h (q1, q2) = true := by simpa [ofH] using he
        rw [if_neg hof] at hsn
        have Hsn := Lib.hid hsn
        have e1 : (q1 == h) = false := by simp; omega
        have e2 : (q2 == h) = false := by simp; omega
        have e1' : (q1 != h) = true := by simp; omega
        have e2' : (q2 != h) = true := by simp; omega
        clear hq htk hT hsn hTl he hof
        go_wp2_with (at_builtin; refine wpList_append_own _ rfl _ _ 34 rfl w.heap.size 42 i0 (.agg #[.int .i64 0, .int .i64 0]) 2 16 Try.underlying34 hi hz0 hz1 hz2 rfl (by decide) _ _ _ rfl (ho.alloc _) ⟨wr.heap.size, 0, none⟩ 1 1 [.int .i64 q1, .int .i64 q2] rfl rfl (World.news_of_block (cs := #[.int .i64 q1, .int .i64 q2]) (t := 42) (fr := (0, 0)) (heap_alloc_new wr _)) (by simp [Value.oneCell']) (by unfold maxLen; omega) (by omega) (by simp; omega) ?_; intro v' w3 o3 g3 _)
        have hB3 := (hB.alloc (by omega) (.cells #[.int .i64 q1, .int .i64 q2] 42)).grown g3 (by simp; omega) (fun r hr => ownBlock_ge ho hr)
        go_roundw
        case rel => exact ⟨k + 1, _, by omega, by go_num, rfl, by rw [Hsn.out, List.length_append, pairs_append, ← HT.out]; exact o3, hB3⟩
        case measure => simp [intOf]; omega
    · obtain rfl : k = n := by omega
      have hkI : ¬ (k : Int) < (k : Int) := by omega
      rw [Hn.out, List.take_length] at ho
      have hTl := woP_le l h
      have hBw := hB
      have hf0 := hsr.head.frozen 0
      obtain ⟨T, hT⟩ : ∃ T, T = (woP l h).length := ⟨_, rfl⟩
      rw [← hT] at ho hTl
      have HT := Lib.hid hT
      have hr := Hend.out wr T ov hBw hT.symm ho (by have := Hn.out; omega)
      obtain ⟨oa, oc, rfl, _, _⟩ := (Rd.of_own ho).shape
      have Hr := Lib.hid hr
      clear hr
      rw [← hT] at hm1
      clear hT
      go_wp2
      go_ret
      exact ⟨ret_int (by rw [← Hn.out, ← HT.out]; first | rfl | exact IntWalk.wrap64_in ((k : Int) - (T : Int)) (by omega)), Hr.out⟩
end Go.Proofs.Ytlcmjpligaiadaa
