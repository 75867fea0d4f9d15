/- Trees: New, Len, Wide, Drop. -/
import Derived.Test.YtadfmhjnmmmalaaN6
namespace Go.Proofs.Ytadfmhjnmmmalaa
open Go.RowKit Go.Maps
theorem tree_has {D : DataW Unit} {ls : List (Int × Nat × Bx)} {L : List Lf} (hT : Tie D ls) (hp : (ls.map bare).Perm L) (h : Int) : Maps.has D (.int .i64 h) = hasL L h := by
  rw [Bool.eq_iff_iff, hT.1 h]
  unfold hasL
  constructor
  · rintro ⟨x, hx, rfl⟩
    cases e : boxOf L x.1 with
    | some b => rfl
    | none => exact absurd rfl (boxOf_none.1 e (bare x) (hp.mem_iff.1 (List.mem_map_of_mem hx)))
  · intro e
    obtain ⟨b, hb⟩ := Option.isSome_iff_exists.1 e
    unfold boxOf at hb
    obtain ⟨y, hy, rfl⟩ := Option.map_eq_some_iff.1 hb
    have h1 := List.mem_of_find?_eq_some hy
    have h2 := List.find?_some hy
    simp only [decide_eq_true_eq] at h2
    obtain ⟨x, hx, rfl⟩ := List.mem_map.1 (hp.mem_iff.2 h1)
    exact ⟨x, hx, h2⟩
theorem tree_leaf {ls : List (Int × Nat × Bx)} {L : List Lf} (hL : Rises L) (hp : (ls.map bare).Perm L) {h : Int} {b : Bx} (e : boxOf L h = some b) : ∃ i, (h, i, b) ∈ ls := by
  obtain ⟨x, hx, hb⟩ := List.mem_map.1 (hp.mem_iff.2 ((boxOf_some hL).1 e))
  obtain ⟨x1, i, x3⟩ := x
  cases hb
  exact ⟨i, hx⟩
set_option maxRecDepth 100000 in
theorem new9_bad (room : Int) (h : room < 1 ∨ 1024 < room) (w : World) :
    Calls Try.prog 9 #[.int .i64 room] w fun e w' => e = .returned (.tuple #[.pointer none, .int .i64 1]) ∧ w = w' := by
  by_cases h1 : room < 1
  · go_enter Try.func9, Try.ntmps9
    go_wp2
    go_ret2
    exact ⟨rfl, rfl⟩
  · have h2 : 1024 < room := by omega
    go_enter Try.func9, Try.ntmps9
    go_wp2
    go_ret2
    exact ⟨rfl, rfl⟩
set_option maxRecDepth 100000 in
theorem new9_any (room : Nat) (h1 : 1 ≤ room) (h2 : room ≤ 1024) (w : World) :
    Calls Try.prog 9 #[.int .i64 (room : Int)] w fun e w' => ∃ t S, e = .returned (.tuple #[.pointer (some ⟨t, 0, none⟩), .int .i64 0]) ∧ Tree w' t S room [] ∧ Below w.heap.size w w' ∧ ∀ j, S j → w.heap.size ≤ j := by
  have hmm := @run_makeMap Try.prog
  have g1 : ¬ (room : Int) < 1 := by omega
  have g2 : ¬ (1024 : Int) < (room : Int) := by omega
  go_enter Try.func9, Try.ntmps9
  go_wp2
  go_ret2
  have hm0 := (World.ownsMap_made (H := Unit) w Try.prog 30 (plainElem Try.prog 3)).alloc (.cells #[.int .i64 (room : Int), .slice none 0 0, .slice none 0 0, .int .i64 (-1), .map (some w.heap.size)] 72)
  have ht := Blk.newAt (w := w.alloc (.map #[] 0)) (b := w.heap.size + 1) (by simp) 72 [.int .i64 (room : Int), .slice none 0 0, .slice none 0 0, .int .i64 (-1), .map (some w.heap.size)]
  refine ⟨w.heap.size + 1, rfl, _, ⟨.slice none 0 0, .slice none 0 0, w.heap.size, [], [], -1, .map [], none, rfl, ⟨ht, World.ownsRow_nil _ _ _ _, World.ownsRow_nil _ _ _ _, hm0⟩, ⟨⟨List.nodup_nil, (fun i hi => by cases hi), rfl⟩, rfl⟩, ⟨(fun h => ⟨(fun e => by cases e), (fun ⟨x, hx, _⟩ => by cases hx)⟩), (fun x hx => by cases hx), rfl⟩, List.Perm.refl _, List.Pairwise.nil, Nat.zero_le _, Nat.zero_le _, h2, (fun x hx => by cases hx)⟩, ((Below.refl _ w).alloc (Nat.le_refl _) _).alloc (by simp) _, ?_⟩
  rintro j (rfl | hj | hj | rfl)
  · omega
  · cases hj
  · cases hj
  · exact Nat.le_refl _
set_option maxRecDepth 100000 in
theorem len19_any (t : Nat) (S : Nat → Prop) (room : Nat) (L : List Lf) (w : World) (h : Tree w t S room L) :
    Calls Try.prog 19 #[.pointer (some ⟨t, 0, none⟩)] w fun e w' => e = .returned (.int .i64 (L.length : Int)) ∧ w' = w := by
  obtain ⟨vn, vf, mb, ns, fr, root, D, o, rfl, hR, hS, hT, hp, hL, _⟩ := h
  have c4 := hR.1.cell 4
  simp only [List.getElem?_cons_zero, List.getElem?_cons_succ] at c4
  have hm := hR.2.2.2
  have hl : Maps.size D = L.length := by rw [hT.2.2, ← hp.length_eq, List.length_map]
  go_enter Try.func19, Try.ntmps19
  go_wp2_with (at_len; refine wpList_len_own _ rfl _ 69 rfl 30 3 Try.underlying69 _ mb _ D rfl hm ?_)
  go_ret
  exact ⟨rfl, rfl⟩
set_option maxRecDepth 100000 in
theorem wide21_any (t : Nat) (S : Nat → Prop) (room : Nat) (L : List Lf) (h : Int) (hh : In64 h) (w : World) (hT : Tree w t S room L) :
    Calls Try.prog 21 #[.pointer (some ⟨t, 0, none⟩), .int .i64 h] w fun e w' => e = .returned (.tuple #[boxV ((boxOf L h).getD ⟨0, 0, 0, 0, 0, 0⟩), .bool (hasL L h)]) ∧ Below w.heap.size w w' := by
  obtain ⟨vn, vf, mb, ns, fr, root, D, o, rfl, hR, hS, hT, hp, hL, hns, _⟩ := hT
  have c4 := hR.1.cell 4
  have c1 := hR.1.cell 1
  simp only [List.getElem?_cons_zero, List.getElem?_cons_succ] at c4 c1
  have htl := hR.1.lt
  have hm := hR.2.2.2
  have hhas := tree_has hT hp h
  have hmal := hm.alloc (.cells #[.int .i64 0, .int .i64 0, .int .i64 0, .int .i64 0, .int .i64 0, .int .i64 0] 34)
  unfold hasL at hhas ⊢
  cases hb : boxOf L h with
  | none =>
    rw [hb] at hhas
    simp only [Option.isSome_none] at hhas ⊢
    go_enter Try.func21, Try.ntmps21
    go_wp2_with (at_lookup; refine wpList_lookup_own_ok_int _ rfl _ _ 69 rfl 30 3 .i64 law30 Try.underlying69 Try.underlying3 (zero3 _) mb _ D rfl hmal _ _ rfl (key30 hh) ?_; intro cc hat hwc; rw [hhas])
    refine bodyPost_ret (v := .tuple #[boxV ⟨0, 0, 0, 0, 0, 0⟩, .bool false]) (by simp [results, Try.f21, go_sem]) rfl ⟨rfl, ?_⟩
    exact (Below.refl _ w).alloc (Nat.le_refl _) _
  | some b =>
    rw [hb] at hhas
    simp only [Option.isSome_some] at hhas ⊢
    obtain ⟨i, hi⟩ := tree_leaf hL hp hb
    have hat0 := hT.2.1 _ hi
    cases o with
    | none => cases hi
    | some T0 =>
      obtain ⟨c, hpl⟩ := T0.find _ hi []
      simp only [plug] at hpl
      have hMid := (show St ns fr root (some (plug c (.leaf i h b))) by rw [← hpl]; exact hS).mid
      obtain ⟨x1, -⟩ := id hMid
      simp only [Hold] at x1
      have hil := (List.getElem?_eq_some_iff.1 x1).1
      obtain ⟨g, cap, hvn⟩ := hR.nodes (fun e => by rw [e] at hil; cases hil)
      subst hvn
      obtain ⟨m, hmm⟩ : ∃ m, m = ns.length := ⟨_, rfl⟩
      have hown := hR.2.1
      rw [← hmm] at hown c1 hil
      obtain ⟨p0, p1, p2, p3, p4, p5, _⟩ := node_cells hown x1
      have hgl := own_lt hown (r := g) rfl
      have hiI : (i : Int) < (m : Int) := by omega
      have Hat := Lib.hid hat0
      clear x1 hMid hpl hmm hat0 hi hb
      go_enter Try.func21, Try.ntmps21
      go_wp2_with (at_lookup; refine wpList_lookup_own_ok_int _ rfl _ _ 69 rfl 30 3 .i64 law30 Try.underlying69 Try.underlying3 (zero3 _) mb _ D rfl hmal _ _ rfl (key30 hh) ?_; intro cc hat hwc; rw [hhas]; obtain rfl : (i : Int) = cc := (by have h9 := (Hat.out _).symm.trans hat; injection h9 with h9; injection h9))
      refine bodyPost_ret (v := .tuple #[boxV b, .bool true]) (by simp [results, Try.f21, go_sem]) rfl ⟨rfl, ?_⟩
      exact (Below.refl _ w).alloc (Nat.le_refl _) _
end Go.Proofs.Ytadfmhjnmmmalaa
