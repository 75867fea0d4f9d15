/- The reference's set: New, Of, less, Has. -/
import Derived.Test.YtlcmjpligaiadaaWc
import Derived.Test.YtlcmjpligaiadaaW8
namespace Go.Proofs.Ytlcmjpligaiadaa
open Go.RowKit
structure RefAt (w : World) (s base : Nat) (v : Value) (room : Nat) (l : List Pr) : Prop where
  head : Blk w s 71 [v, .int .i64 room]
  own : w.ownsRow base 42 2 v l.length (pairCells l)
  full : l.length ≤ room
  room : 1 ≤ room ∧ room ≤ 4096
theorem RefAt.len {w : World} {s base room : Nat} {v : Value} {l : List Pr} (h : RefAt w s base v room l) : l.length ≤ 4096 := Nat.le_trans h.full h.room.2
theorem RefAt.rd {w : World} {s base room : Nat} {v : Value} {l : List Pr} (h : RefAt w s base v room l) : Rd w v l.length 2 (pairCells l) := Rd.of_own h.own
theorem RefAt.new {w w' : World} {s base room : Nat} {v : Value} {l : List Pr} (h : RefAt w s base v room l) (hB : Below w.heap.size w w') : RefAt w' s base v room l :=
  ⟨h.head.below hB h.head.lt, own_new h.own hB, h.full, h.room⟩
theorem RefAt.lt {w : World} {s base room : Nat} {v : Value} {l : List Pr} (h : RefAt w s base v room l) {j : Nat} (hj : Foot s v j) : j < w.heap.size := by
  rcases hj with rfl | hj
  · exact h.head.lt
  · exact own_lt h.own hj
theorem RefAt.mod {S : Nat → Prop} {w w' : World} {s base room : Nat} {v : Value} {l : List Pr} (h : RefAt w s base v room l) (hm : Mod S w w') (hd : ∀ j, Foot s v j → ¬ S j) : RefAt w' s base v room l :=
  ⟨h.head.mod hm (hd s (.inl rfl)), own_keep h.own (fun g _ e hc => hm.block g (Array.getElem?_eq_some_iff.1 hc).1 (hd g (.inr e))), h.full, h.room⟩
theorem rnew_bad (room : Int) (w : World) (h : room < 1 ∨ 4096 < room) :
    Calls Try.prog 36 #[.int .i64 room] w fun e w' => e = .returned (.tuple #[.pointer none, .int .i64 1]) ∧ w = w' := by
  by_cases h1 : room < 1
  · go_enter Try.func36, Try.ntmps36
    go_wp2
    go_ret2
    exact ⟨rfl, rfl⟩
  · have h2 : 4096 < room := by omega
    clear h
    go_enter Try.func36, Try.ntmps36
    go_wp2
    go_ret2
    exact ⟨rfl, rfl⟩
theorem rnew_ok (room : Int) (n : Nat) (hn : room = (n : Int)) (base : Nat) (w : World) (h1 : 1 ≤ n) (h2 : n ≤ 4096) :
    Calls Try.prog 36 #[.int .i64 room] w fun e w' => e = .returned (.tuple #[.pointer (some ⟨w.heap.size, 0, none⟩), .int .i64 0]) ∧ RefAt w' w.heap.size base (.slice none 0 0) n [] ∧ Below w.heap.size w w' := by
  subst hn
  have n1 : (1 : Int) ≤ (n : Int) := by omega
  have n2 : (n : Int) ≤ 4096 := by omega
  go_enter Try.func36, Try.ntmps36
  go_wp2
  go_ret2
  exact ⟨rfl, ⟨Blk.new w 71 [_, _], World.ownsRow_nil _ _ _ _, Nat.zero_le _, ⟨h1, h2⟩⟩, (Below.refl _ w).alloc (Nat.le_refl _) _⟩
theorem pick38_any (c n : Int) (w : World) (hc : -9223372036854775808 ≤ c) (hc2 : c ≤ 9223372036854775807) (hn : 1 ≤ n) (hn2 : n ≤ 65536) :
    Calls Try.prog 38 #[.int .i64 c, .int .i64 n] w fun e w' => e = .returned (.int .i64 (pickN c n)) ∧ w = w' := by
  by_cases h : c < 0
  · go_enter Try.func38, Try.ntmps38
    go_wp2
    go_ret
    exact ⟨ret_int (by simp [pickN, h]), rfl⟩
  · go_enter Try.func38, Try.ntmps38
    go_wp2
    go_ret
    exact ⟨ret_int (by have : ¬ c < 0 := by omega
                       simp [pickN, this, Int.tmod_eq_emod_of_nonneg h]), rfl⟩
theorem less_any (p q : Pr) (w : World) :
    Calls Try.prog 69 #[.agg #[.int .i64 p.1, .int .i64 p.2], .agg #[.int .i64 q.1, .int .i64 q.2]] w fun e w' => e = .returned (.bool (decide (ltP p q))) ∧ Below w.heap.size w w' := by
  obtain ⟨p1, p2⟩ := p
  obtain ⟨q1, q2⟩ := q
  have B1 : Below w.heap.size w ((w.alloc (.cells #[.int .i64 p1, .int .i64 p2] 42)).alloc (.cells #[.int .i64 q1, .int .i64 q2] 42)) := ((Below.refl _ w).alloc (Nat.le_refl _) _).alloc (by simp) _
  rcases (show p1 < q1 ∨ p1 = q1 ∨ q1 < p1 by omega) with h | rfl | h
  · have e1 : decide (p1 < q1) = true := by simp [h]
    have e0 : decide (ltP (p1, p2) (q1, q2)) = true := by simp [ltP, h]
    rw [e0]
    go_enter Try.func69, Try.ntmps69
    go_wp2
    go_ret
    exact ⟨rfl, B1⟩
  · have e1 : decide (p1 < p1) = false := by simp
    have e2 : (p1 == p1) = true := by simp
    have e0 : decide (ltP (p1, p2) (p1, q2)) = decide (p2 < q2) := by simp [ltP]
    rw [e0]
    go_enter Try.func69, Try.ntmps69
    go_wp2
    go_ret
    exact ⟨rfl, B1⟩
  · have e1 : decide (p1 < q1) = false := by simp; omega
    have e2 : (p1 == q1) = false := by simp; omega
    have e0 : decide (ltP (p1, p2) (q1, q2)) = false := decide_eq_false (by unfold ltP; simp only; omega)
    rw [e0]
    go_enter Try.func69, Try.ntmps69
    go_wp2
    go_ret
    exact ⟨rfl, B1⟩
set_option maxRecDepth 100000 in
set_option maxHeartbeats 4000000 in
theorem rhas_any (s base room : Nat) (v : Value) (l : List Pr) (p : Pr) (w : World) (hs : RefAt w s base v room l) :
    Calls Try.prog 44 #[.pointer (some ⟨s, 0, none⟩), .agg #[.int .i64 p.1, .int .i64 p.2]] w fun e w' => e = .returned (.bool (hasP l p)) ∧ Below w.heap.size w w' := by
  obtain ⟨p1, p2⟩ := p
  have hlen := hs.len
  obtain ⟨sa, sc, rfl, s1, s2⟩ := hs.rd.shape
  have B0 : Below w.heap.size w (w.alloc (.cells #[.int .i64 p1, .int .i64 p2] 42)) := (Below.refl _ w).alloc (Nat.le_refl _) _
  have x0 : Blk (w.alloc (.cells #[.int .i64 p1, .int .i64 p2] 42)) w.heap.size 42 [.int .i64 p1, .int .i64 p2] := Blk.new w 42 [_, _]
  have hs0 := hs.new B0
  have hrd := hs0.rd
  have c0 := hs0.head.cell 0
  simp only [List.getElem?_cons_zero] at c0
  obtain ⟨n, hn⟩ : ∃ n, n = l.length := ⟨_, rfl⟩
  rw [← hn] at c0 hrd hlen s1
  have Hn := Lib.hid hn
  clear hn hs0
  go_enter Try.func44, Try.ntmps44
  go_wp2
  generalize w.alloc (.cells #[.int .i64 p1, .int .i64 p2] 42) = w0 at B0 x0 hrd c0 ⊢
  have b0 := x0.cell 0
  have b1 := x0.cell 1
  simp only [List.getElem?_cons_zero, List.getElem?_cons_succ] at b0 b1
  go_loopw [5] (fun i wr => ∃ k : Nat, k ≤ n ∧ i = .int .i64 k ∧ (∃ d, wr = w0.drewN d) ∧ (p1, p2) ∉ l.take k) (fun i _ => n - (intOf i).toNat)
  case atStart => exact ⟨0, Nat.zero_le _, rfl, ⟨0, rfl⟩, by simp⟩
  case round =>
    obtain ⟨k, hk, rfl, ⟨d, rfl⟩, hnot⟩ := hrel
    by_cases hlt : k < n
    · have hkI : (k : Int) < (n : Int) := by omega
      obtain ⟨q, hq⟩ : ∃ q, l[k]? = some q := ⟨_, List.getElem?_eq_getElem (by rw [← Hn.out]; exact hlt)⟩
      obtain ⟨ab, ao, rfl⟩ := hrd.addr (by omega)
      obtain ⟨f0, f1⟩ := hrd.pair Hn.out.symm hlt hq
      obtain ⟨hk1, hqe⟩ := List.getElem?_eq_some_iff.1 hq
      have htk : l.take (k + 1) = l.take k ++ [q] := by rw [List.take_succ_eq_append_getElem hk1, hqe]
      by_cases he : q = (p1, p2)
      · subst he
        have hh : hasP l (p1, p2) = true := by simp [hasP, List.mem_of_getElem? hq]
        have heq : ∀ w, (binOp .eql 42 (.agg #[.int .i64 p1, .int .i64 p2]) (.agg #[.int .i64 p1, .int .i64 p2])).run Try.prog w = .ok (.bool true) w := fun w => by
          rw [eqPair]; simp
        have hgd := guard42
        simp only at f0 f1
        clear hq hqe htk
        go_wp2
        go_quiet (fail)
        go_wp2
        go_ret
        exact ⟨by first | rfl | exact ret_bool hh.symm, Below.drewN' (Below.drewN' B0 _) _⟩
      · have Hnew := Lib.hid (show (p1, p2) ∉ l.take (k + 1) by rw [htk]; simp [hnot]; exact fun e => he e.symm)
        obtain ⟨q1, q2⟩ := q
        have heq : ∀ w, (binOp .eql 42 (.agg #[.int .i64 q1, .int .i64 q2]) (.agg #[.int .i64 p1, .int .i64 p2])).run Try.prog w = .ok (.bool false) w := fun w => by
          rw [eqPair]; simp only [Prod.mk.injEq] at he; simp; omega
        have hgd := guard42
        simp only at f0 f1
        clear hq hqe htk he hnot
        go_wp2
        go_quiet (fail)
        go_wp2
        go_roundw
        case rel => exact ⟨k + 1, by omega, by go_num, ⟨_, rfl⟩, Hnew.out⟩
        case measure => simp [intOf]; omega
    · obtain rfl : k = n := by omega
      have hkI : ¬ (k : Int) < (k : Int) := by omega
      have hh : hasP l (p1, p2) = false := by rw [Hn.out, List.take_length] at hnot; simp [hasP, hnot]
      clear hnot
      go_wp2
      go_ret
      exact ⟨rfl, Below.drewN' B0 _⟩
theorem rof_any (a b : Int) (w : World) :
    Calls Try.prog 39 #[.int .i64 a, .int .i64 b] w fun e w' => e = .returned (.agg #[.int .i64 (min a b), .int .i64 (max a b)]) ∧ Below w.heap.size w w' := by
  rcases (show a ≤ b ∧ ¬ b < a ∨ b < a by omega) with ⟨h, h'⟩ | h
  · have h1 := Lib.hid (show min a b = a by omega)
    have h2 := Lib.hid (show max a b = b by omega)
    rcases (show a < b ∨ a = b by omega) with h3 | rfl
    · go_enter Try.func39, Try.ntmps39
      go_wp2
      refine bodyPost_ret (v := .agg #[.int .i64 a, .int .i64 b]) (by simp [results, Try.f39, go_sem]) rfl ⟨by rw [h1.out, h2.out], ?_⟩
      exact (Below.refl _ w).alloc (Nat.le_refl _) _
    · go_enter Try.func39, Try.ntmps39
      go_wp2
      refine bodyPost_ret (v := .agg #[.int .i64 a, .int .i64 a]) (by simp [results, Try.f39, go_sem]) rfl ⟨rfl, ?_⟩
      exact (Below.refl _ w).alloc (Nat.le_refl _) _
  · have h1 := Lib.hid (show min a b = b by omega)
    have h2 := Lib.hid (show max a b = a by omega)
    have h3 : ¬ a < b := by omega
    go_enter Try.func39, Try.ntmps39
    go_wp2
    refine bodyPost_ret (v := .agg #[.int .i64 b, .int .i64 a]) (by simp [results, Try.f39, go_sem]) rfl ⟨by rw [h1.out, h2.out], ?_⟩
    exact (Below.refl _ w).alloc (Nat.le_refl _) _
end Go.Proofs.Ytlcmjpligaiadaa
