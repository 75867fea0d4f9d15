/- The reference set's Beyond. -/
import Derived.Test.YtlcmjpligaiadaaWi
namespace Go.Proofs.Ytlcmjpligaiadaa
open Go.RowKit
def BeyPost (l m : List Pr) (w : World) (e : Ending) (w' : World) : Prop :=
  ∃ ov, e = .returned ov ∧ w'.ownsRow w.heap.size 42 2 ov (beyP l m).length (pairCells (beyP l m)) ∧ Below w.heap.size w w'
theorem BeyPost.mk {l m : List Pr} {w w' : World} {ov : Value} {n : Nat} (h : w'.ownsRow w.heap.size 42 2 ov n (pairCells (beyP l m))) (hn : n = (beyP l m).length) (hb : Below w.heap.size w w') : BeyPost l m w (.returned ov) w' := by
  subst hn; exact ⟨ov, rfl, h, hb⟩
set_option maxRecDepth 100000 in
set_option maxHeartbeats 4000000 in
theorem rbeyond_any (s base room t base2 room2 : Nat) (v v2 : Value) (l m : List Pr) (w : World) (hs : RefAt w s base v room l) (ht : RefAt w t base2 v2 room2 m) :
    Calls Try.prog 45 #[.pointer (some ⟨s, 0, none⟩), .pointer (some ⟨t, 0, none⟩)] w (BeyPost l m w) := by
  obtain ⟨i0, hi, hz0, hz1, hz2⟩ := info_parts info42
  have hlen := hs.len
  obtain ⟨sa, sc, rfl, s1, s2⟩ := hs.rd.shape
  obtain ⟨n, hn⟩ : ∃ n, n = l.length := ⟨_, rfl⟩
  go_enter Try.func45, Try.ntmps45
  go_wp2
  go_loopw [5, 6, 7] (fun o i _ wr => ∃ (k : Nat) (ov : Value), k ≤ n ∧ i = .int .i64 k ∧ ov = o ∧ wr.ownsRow w.heap.size 42 2 ov (beyP (l.take k) m).length (pairCells (beyP (l.take k) m)) ∧ Below w.heap.size w wr) (fun _ i _ _ => n - (intOf i).toNat)
  case atStart => exact ⟨0, _, Nat.zero_le _, rfl, rfl, World.ownsRow_nil _ _ _ _, Below.refl _ _⟩
  case round =>
    obtain ⟨k, ov, hk, rfl, rfl, ho, hB⟩ := hrel
    have hsr := hs.new hB
    have htr := ht.new hB
    have hrd := hsr.rd
    have c0 := hsr.head.cell 0
    simp only [List.getElem?_cons_zero] at c0
    rw [← hn] at c0 hrd s1 hlen
    have Hn := Lib.hid hn
    have hwr := hB.size
    clear hn
    by_cases hlt : k < n
    · have hkI : (k : Int) < (n : Int) := by omega
      obtain ⟨q, hq⟩ : ∃ q, l[k]? = some q := ⟨_, List.getElem?_eq_getElem (by rw [← Hn.out]; exact hlt)⟩
      obtain ⟨ab, ao, rfl⟩ := hrd.addr (by omega)
      obtain ⟨f0, f1⟩ := hrd.pair Hn.out.symm hlt hq
      have htk := take_at hq
      have hsn := beyP_snoc (l.take k) m q
      rw [← htk] at hsn
      have hTl := beyP_le (l.take k) m
      rw [List.length_take] at hTl
      obtain ⟨T, hT⟩ : ∃ T, T = (beyP (l.take k) m).length := ⟨_, rfl⟩
      rw [← hT] at ho hTl
      have HT := Lib.hid hT
      have hTk : T ≤ k := by omega
      have habr : ab < wr.heap.size := hrd.block_lt (by omega)
      have hhas := rhas_any t base2 room2 v2 m q wr htr
      obtain ⟨q1, q2⟩ := q
      simp only at f0 f1 hhas
      cases hh : hasP m (q1, q2) with
      | true =>
        rw [if_pos hh] at hsn
        rw [hh] at hhas
        have Hsn := Lib.hid hsn
        have Hhas := Lib.hid hhas
        clear hq htk hT hsn hTl hh hhas
        go_wp2_with fail
        refine Hhas.out.mono ?_
        rintro e w2 ⟨rfl, B2⟩
        go_wp2
        go_roundw
        case rel => exact ⟨k + 1, _, by omega, by go_num, rfl, by rw [Hsn.out, ← HT.out]; exact own_new ho B2, hB.trans (B2.mono hwr)⟩
        case measure => simp [intOf]; omega
      | false =>
        rw [if_neg (by rw [hh]; simp)] at hsn
        rw [hh] at hhas
        have Hsn := Lib.hid hsn
        have Hhas := Lib.hid hhas
        clear hq htk hT hsn hTl hh hhas
        go_wp2_with fail
        refine Hhas.out.mono ?_
        rintro e W2 ⟨rfl, BW2⟩
        have o2 := own_new ho BW2
        have hs2 := hsr.new BW2
        have g0 := hs2.head.cell 0
        have r0 := (BW2.cell (p := ⟨ab, ao + k * 2, none⟩) habr).trans f0
        have r1 := (BW2.cell (p := ⟨ab, ao + k * 2 + 1, none⟩) habr).trans f1
        simp only [List.getElem?_cons_zero] at g0
        rw [← Hn.out] at g0
        have hw2 := BW2.size
        go_wp2_with (at_builtin; refine wpList_append_own _ rfl _ _ 34 rfl w.heap.size 42 i0 (.agg #[.int .i64 0, .int .i64 0]) 2 16 Try.underlying34 hi hz0 hz1 hz2 rfl (by decide) _ _ _ rfl (o2.alloc _) ⟨W2.heap.size, 0, none⟩ 1 1 [.int .i64 q1, .int .i64 q2] rfl rfl (World.news_of_block (cs := #[.int .i64 q1, .int .i64 q2]) (t := 42) (fr := (0, 0)) (heap_alloc_new W2 _)) (by simp [Value.oneCell']) (by unfold maxLen; omega) (by omega) (by simp; omega) ?_; intro v' w3 o3 g3 _)
        have hB3 := ((hB.trans (BW2.mono hwr)).alloc (by omega) (.cells #[.int .i64 q1, .int .i64 q2] 42)).grown g3 (by simp; omega) (fun r hr => ownBlock_ge o2 hr)
        go_roundw
        case rel => exact ⟨k + 1, _, by omega, by go_num, rfl, by rw [Hsn.out, List.length_append, pairs_append, ← HT.out]; exact o3, hB3⟩
        case measure => simp [intOf]; omega
    · obtain rfl : k = n := by omega
      have hkI : ¬ (k : Int) < (k : Int) := by omega
      rw [Hn.out, List.take_length] at ho
      have hr := BeyPost.mk ho rfl hB
      have Hr := Lib.hid hr
      clear hr
      go_wp2
      go_ret
      exact Hr.out
set_option maxRecDepth 100000 in
set_option maxHeartbeats 4000000 in
theorem rbeyond_nil (s base room : Nat) (v : Value) (l : List Pr) (w : World) (hs : RefAt w s base v room l) :
    Calls Try.prog 45 #[.pointer (some ⟨s, 0, none⟩), .pointer none] w (BeyPost l [] w) := by
  obtain ⟨i0, hi, hz0, hz1, hz2⟩ := info_parts info42
  have hlen := hs.len
  obtain ⟨sa, sc, rfl, s1, s2⟩ := hs.rd.shape
  obtain ⟨n, hn⟩ : ∃ n, n = l.length := ⟨_, rfl⟩
  go_enter Try.func45, Try.ntmps45
  go_wp2
  go_loopw [5, 6, 7] (fun o i _ wr => ∃ (k : Nat) (ov : Value), k ≤ n ∧ i = .int .i64 k ∧ ov = o ∧ wr.ownsRow w.heap.size 42 2 ov (beyP (l.take k) []).length (pairCells (beyP (l.take k) [])) ∧ Below w.heap.size w wr) (fun _ i _ _ => n - (intOf i).toNat)
  case atStart => exact ⟨0, _, Nat.zero_le _, rfl, rfl, World.ownsRow_nil _ _ _ _, Below.refl _ _⟩
  case round =>
    obtain ⟨k, ov, hk, rfl, rfl, ho, hB⟩ := hrel
    have hsr := hs.new hB
    have hrd := hsr.rd
    have c0 := hsr.head.cell 0
    simp only [List.getElem?_cons_zero] at c0
    rw [← hn] at c0 hrd s1 hlen
    have Hn := Lib.hid hn
    have hwr := hB.size
    clear hn
    by_cases hlt : k < n
    · have hkI : (k : Int) < (n : Int) := by omega
      obtain ⟨q, hq⟩ : ∃ q, l[k]? = some q := ⟨_, List.getElem?_eq_getElem (by rw [← Hn.out]; exact hlt)⟩
      obtain ⟨ab, ao, rfl⟩ := hrd.addr (by omega)
      obtain ⟨f0, f1⟩ := hrd.pair Hn.out.symm hlt hq
      have htk := take_at hq
      have hsn := beyP_snoc (l.take k) [] q
      rw [← htk, if_neg (by simp [hasP])] at hsn
      have hTl := beyP_le (l.take k) []
      rw [List.length_take] at hTl
      obtain ⟨T, hT⟩ : ∃ T, T = (beyP (l.take k) []).length := ⟨_, rfl⟩
      rw [← hT] at ho hTl
      have HT := Lib.hid hT
      have hTk : T ≤ k := by omega
      obtain ⟨q1, q2⟩ := q
      simp only at f0 f1
      have Hsn := Lib.hid hsn
      clear hq htk hT hsn hTl
      go_wp2_with (at_builtin; refine wpList_append_own _ rfl _ _ 34 rfl w.heap.size 42 i0 (.agg #[.int .i64 0, .int .i64 0]) 2 16 Try.underlying34 hi hz0 hz1 hz2 rfl (by decide) _ _ _ rfl (ho.alloc _) ⟨wr.heap.size, 0, none⟩ 1 1 [.int .i64 q1, .int .i64 q2] rfl rfl (World.news_of_block (cs := #[.int .i64 q1, .int .i64 q2]) (t := 42) (fr := (0, 0)) (heap_alloc_new wr _)) (by simp [Value.oneCell']) (by unfold maxLen; omega) (by omega) (by simp; omega) ?_; intro v' w3 o3 g3 _)
      have hB3 := (hB.alloc (by omega) (.cells #[.int .i64 q1, .int .i64 q2] 42)).grown g3 (by simp; omega) (fun r hr => ownBlock_ge ho hr)
      go_roundw
      case rel => exact ⟨k + 1, _, by omega, by go_num, rfl, by rw [Hsn.out, List.length_append, pairs_append, ← HT.out]; exact o3, hB3⟩
      case measure => simp [intOf]; omega
    · obtain rfl : k = n := by omega
      have hkI : ¬ (k : Int) < (k : Int) := by omega
      rw [Hn.out, List.take_length] at ho
      have hr := BeyPost.mk ho rfl hB
      have Hr := Lib.hid hr
      clear hr
      go_wp2
      go_ret
      exact Hr.out
end Go.Proofs.Ytlcmjpligaiadaa
