/- Going through a set: slices.Values, All; Clip. -/
import Derived.Test.YtlcmjpligaiadaaW5
namespace Go.Proofs.Ytlcmjpligaiadaa
open Go.RowKit Go.Shelf
attribute [local go_sem] Oper.semAt_some
theorem values_any (va : Option Addr) (n c : Nat) (w : World) : Calls Try.prog 82 #[.slice va n c] w fun e w' => e = .returned (.func (.func 89) #[] #[.pointer (some ⟨w.heap.size, 0, none⟩)]) ∧ w' = w.alloc (.cells #[.slice va n c] 34) := by
  go_enter Try.func82, Try.ntmps82
  go_wp2
  go_ret
  exact ⟨rfl, rfl⟩
theorem all_any (s base room : Nat) (v : Value) (l : List Pr) (w : World) (hs : SetAt w s base v room l) : Calls Try.prog 62 #[.pointer (some ⟨s, 0, none⟩)] w fun e w' => e = .returned (.func (.func 89) #[] #[.pointer (some ⟨w.heap.size, 0, none⟩)]) ∧ w' = w.alloc (.cells #[v] 34) := by
  obtain ⟨sa, sc, rfl, s1, s2⟩ := hs.rd.shape
  have c0 := hs.head.cell 0
  simp only [List.getElem?_cons_zero] at c0
  generalize l.length = n at c0 ⊢
  go_enter Try.func62, Try.ntmps62
  go_wp2_with fail
  refine (values_any _ _ _ _).mono ?_
  rintro e w' ⟨rfl, rfl⟩
  go_wp2
  go_ret
  exact ⟨rfl, rfl⟩
theorem Rd.keep {bs : List Nat} {w w' : World} {v : Value} {n sz : Nat} {xs : List Value} (h : Rd w v n sz xs) (hk : KeepB bs w w') (hb : ∀ b, v.ownBlock = some b → b ∈ bs) : Rd w' v n sz xs := by
  obtain ⟨ao, cap, rfl, h1, h2, h2', h3⟩ := h
  refine ⟨ao, cap, rfl, h1, h2, h2', fun hn => ?_⟩
  obtain ⟨b, off, rfl, hlt, hc⟩ := h3 hn
  have e := hk b (hb b rfl)
  exact ⟨b, off, rfl, keep_lt e hlt, fun i hi => (World.cell?_of_block (w := w) e).trans (hc i hi)⟩
set_option maxRecDepth 100000 in
set_option maxHeartbeats 4000000 in
theorem values_seq (F : Fence) (n : Nat) (hF : F.fn 89) (hro : F.round = none) (hn : 1 ≤ n) (bb m : Nat) (bs : List Nat) (v : Value) (l : List Pr) (w : World) (hl : l.length = m) (hbox : Blk w bb 34 [v]) (hrd : Rd w v m 2 (pairCells l)) (_hbb : bb ∈ bs) (hbv : ∀ b, v.ownBlock = some b → b ∈ bs) (hbs : ∀ b ∈ bs, b < w.heap.size) :
    SeqL F n Try.prog 89 #[.pointer (some ⟨bb, 0, none⟩)] (fun p : Pr => #[.agg #[.int .i64 p.1, .int .i64 p.2]]) (KeepB bs) l w := by
  intro li J Jx W hW hJ hJx hY h0
  obtain ⟨va, vc, rfl, v1, v2⟩ := hrd.shape
  have hbW := hbox.below hW hbox.lt
  have hrW := hrd.new hW
  have hsz := hW.size
  have cb := hbW.cell 0
  simp only [List.getElem?_cons_zero] at cb
  have Hl := Lib.hid hl
  have hlt0 : ∀ b ∈ bs, b < W.heap.size := fun b hb => Nat.lt_of_lt_of_le (hbs b hb) hsz
  have Hbv := Lib.hid hbv
  have Hlt0 := Lib.hid hlt0
  clear hl hbv hlt0 hbs
  refine callsIn_of_wp Try.func89 rfl hF ?_ hro
  simp only [Try.ntmps89, List.size_toArray, List.length_cons, List.length_nil, Nat.reduceAdd, Nat.reduceSub, Array.replicate_succ, Array.replicate_zero, List.push_toArray, List.append_toArray, List.nil_append, List.cons_append]
  gi_wp2
  gi_loopw [7] (fun i wr => ∃ k : Nat, k ≤ m ∧ i = .int .i64 k ∧ J (l.take k) wr ∧ Hid (KeepB bs W wr)) (fun i _ => m - (intOf i).toNat)
  case atStart => exact ⟨0, Nat.zero_le _, rfl, h0, Lib.hid (fun _ _ => rfl)⟩
  case round =>
    obtain ⟨k, hk, rfl, hJk, hKk⟩ := hrel
    by_cases hlt : k < m
    · obtain ⟨p, hp⟩ : ∃ p, l[k]? = some p := ⟨_, List.getElem?_eq_getElem (by rw [Hl.out]; exact hlt)⟩
      obtain ⟨gb, go, rfl⟩ := hrd.addr (by omega)
      have hrr := Rd.keep hrW hKk Hbv.out
      obtain ⟨f0, f1⟩ := hrr.pair Hl.out hlt hp
      obtain ⟨p1, p2⟩ := p
      simp only at f0 f1
      have hkl : k < l.length := by rw [Hl.out]; exact hlt
      have hJa : J (l.take k) (wr.alloc (.cells #[.int .i64 p1, .int .i64 p2] 42)) := hJ _ _ _ none hJk (World.grownBy_alloc wr _ none) (fun r e => by cases e)
      have hKa : KeepB bs W (wr.alloc (.cells #[.int .i64 p1, .int .i64 p2] 42)) := fun b hb => (Below.heap_alloc _ _ _ (keep_lt (hKk b hb) (Hlt0.out b hb))).trans (hKk b hb)
      have hnx : l.take (k + 1) = l.take k ++ [(p1, p2)] := by
        rw [List.take_succ_eq_append_getElem hkl]
        rw [List.getElem?_eq_getElem hkl] at hp
        rw [Option.some.inj hp]
      have hpost : ∃ post, l = l.take k ++ (p1, p2) :: post := by
        refine ⟨l.drop (k + 1), ?_⟩
        have := (List.take_append_drop (k + 1) l).symm
        rw [hnx, List.append_assoc] at this
        exact this
      obtain ⟨fn, tmps, assign, body, hy, hR⟩ := hY _ (p1, p2) _ hJa hpost
      dsimp only at hy hR
      have Hnx := Lib.hid hnx
      have Hpost := Lib.hid hpost
      have HKa := Lib.hid hKa
      have hkn : (k : Int) < (m : Int) := by omega
      clear hp hnx hpost hKa hrr hJa
      gi_wp2
      refine hR.mono ?_
      rintro e W3 (⟨rfl, hJ3, hk3⟩ | ⟨rfl, hJx3⟩)
      · gi_wp2
        go_roundw
        case rel => exact ⟨k + 1, by omega, by go_num, by rw [Hnx.out]; exact hJ3, Lib.hid (KeepB.trans HKa.out hk3)⟩
        case measure => simp [intOf]; omega
      · gi_wp2
        refine bodyPost_ret (results_none rfl _ _ _) rfl ?_
        obtain ⟨post, hpost⟩ := Hpost.out
        exact ⟨⟨_, rfl⟩, .inr ⟨_, ⟨post, by rw [List.append_assoc]; exact hpost⟩, hJx3⟩⟩
    · obtain rfl : k = m := by omega
      gi_wp2
      go_end0
      refine ⟨⟨_, rfl⟩, .inl ?_⟩
      rwa [← Hl.out, List.take_length] at hJk
theorem clip_any (ao : Option Addr) (n cap : Nat) (w : World) (h : n ≤ cap) (_h2 : cap ≤ 9223372036854775807) :
    Calls Try.prog 65 #[.slice ao n cap] w fun e w' => e = .returned (.slice ao n n) ∧ w = w' := by
  have h3 : (n : Int) ≤ (cap : Int) := by omega
  go_enter Try.func65, Try.ntmps65
  go_wp2
  go_ret
  exact ⟨rfl, rfl⟩
end Go.Proofs.Ytlcmjpligaiadaa
