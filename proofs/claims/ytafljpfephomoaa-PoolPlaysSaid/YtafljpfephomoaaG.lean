/- IslandGrows: the walk. -/
import Derived.Test.YtafljpfephomoaaA5
import Derived.Deep.AppendLies
namespace Go.Proofs.Ytafljpfephomoaa
open Go.RowKit
theorem pickN_range {c n : Int} (hn : 1 ≤ n) : 0 ≤ pickN c n ∧ pickN c n < n := by
  unfold pickN
  split
  · rw [Int.tmod_eq_emod_of_nonneg (by omega)]
    exact ⟨Int.emod_nonneg _ (by omega), Int.emod_lt_of_pos _ (by omega)⟩
  · rw [Int.tmod_eq_emod_of_nonneg (by omega)]
    exact ⟨Int.emod_nonneg _ (by omega), Int.emod_lt_of_pos _ (by omega)⟩
def In64 (c : Int) : Prop := -9223372036854775808 ≤ c ∧ c ≤ 9223372036854775807
def picked (N : Int) (ls : List (Int × Int)) (k : Nat) : List (Int × Int) := (ls.take k).map fun p => (pickN p.1 N, pickN p.2 N)
theorem picked_succ (N : Int) (ls : List (Int × Int)) (k : Nat) (h : k < ls.length) : picked N ls (k + 1) = picked N ls k ++ [(pickN (ls[k]?.getD (0, 0)).1 N, pickN (ls[k]?.getD (0, 0)).2 N)] := by
  unfold picked; rw [List.take_succ_eq_append_getElem h, List.getElem?_eq_getElem h, List.map_append]; rfl
theorem picked_len (N : Int) (ls : List (Int × Int)) (k : Nat) (h : k ≤ ls.length) : (picked N ls k).length = k := by simp [picked]; omega
theorem pairCells_append (a b : List (Int × Int)) : pairCells (a ++ b) = pairCells a ++ pairCells b := by simp [pairCells]
theorem info25 : (Try.prog.info? 25).map (fun i => (i.zero, i.size, i.bytes)) = some (some (.agg #[.int .i64 0, .int .i64 0]), 2, 16) := by kernel_rfl
theorem own_new {w w' : World} {base : Nat} {e : TypeId} {v : Value} {n sz : Nat} {xs : List Value} (h : w.ownsRow base e sz v n xs) (hb : Below w.heap.size w w') : w'.ownsRow base e sz v n xs := by
  obtain ⟨h1, h2⟩ := h
  rcases h2 with ⟨rfl, rfl⟩ | ⟨g, cap, cur, rfl, hg, hh, r⟩
  · exact ⟨h1, .inl ⟨rfl, rfl⟩⟩
  · exact ⟨h1, .inr ⟨g, cap, cur, rfl, hg, by rw [hb.block g (Array.getElem?_eq_some_iff.1 hh).1]; exact hh, r⟩⟩

theorem own_lt {w : World} {base : Nat} {e : TypeId} {v : Value} {n sz : Nat} {xs : List Value} (h : w.ownsRow base e sz v n xs) {r : Nat} (hr : v.ownBlock = some r) : r < w.heap.size := by
  rcases h.2 with ⟨rfl, rfl⟩ | ⟨g, cap, cur, rfl, hg, hh, _⟩
  · simp [Value.ownBlock] at hr
  · simp [Value.ownBlock] at hr; subst hr; exact (Array.getElem?_eq_some_iff.1 hh).1
theorem Rd.grown {w w' : World} {v : Value} {n sz : Nat} {xs : List Value} {row : Option Nat} (h : Rd w v n sz xs) (hg : w.grownBy w' row) (hr : ∀ b, v.ownBlock = some b → row ≠ some b) : Rd w' v n sz xs :=
  h.same hg.size fun b hb hlt => hg.block b hlt (Ne.symm (hr b hb))
theorem joins_all {n i : Int} (h0 : 0 ≤ i) (h1 : i < n) : joinsB n [] i = true := by simp [joinsB, h0, h1]
theorem groups_snoc (N : Nat) (L : List (Int × Int)) {a b : Nat} (ha : a < N) (hb : b < N) : groupsN N [] (L ++ [((a : Int), (b : Int))]) = joinTwo (groupsN N [] L) ((groupsN N [] L)[a]?.getD 0) ((groupsN N [] L)[b]?.getD 0) := by
  unfold groupsN
  rw [List.foldl_append]
  simp [joinStep, joins_all (show (0 : Int) ≤ (a : Int) by omega) (show (a : Int) < (N : Int) by omega), joins_all (show (0 : Int) ≤ (b : Int) by omega) (show (b : Int) < (N : Int) by omega)]
theorem joinStep_len (n : Int) (ws : List Bool) (g : List Int) (p : Int × Int) : (joinStep n ws g p).length = g.length := by
  unfold joinStep; split <;> simp [joinTwo]
theorem groupsN_len (N : Nat) (ws : List Bool) (L : List (Int × Int)) : (groupsN N ws L).length = N := by
  unfold groupsN
  have : ∀ (L : List (Int × Int)) (g : List Int), (L.foldl (joinStep N ws) g).length = g.length := by
    intro L
    induction L with
    | nil => intro g; rfl
    | cons p L ih => intro g; rw [List.foldl_cons, ih, joinStep_len]
  rw [this]; simp [upTo]
/-- What the law asks of each thing. -/
theorem joinTwo_get (g : List Int) (x y : Int) (i : Nat) (h : i < g.length) : (joinTwo g x y)[i]?.getD 0 = if g[i]?.getD 0 = x ∨ g[i]?.getD 0 = y then min x y else g[i]?.getD 0 := by
  unfold joinTwo
  rw [List.getElem?_map, List.getElem?_eq_getElem h]
  simp only [Option.map_some, Option.getD_some]
  split <;> split <;> omega

set_option maxRecDepth 100000 in
set_option maxHeartbeats 4000000 in
theorem grows_any (n a b : Int) (lv : Value) (nl : Nat) (ls : List (Int × Int)) (hnl : ls.length = nl) (w : World) (hn : In64 n) (ha : In64 a) (hb : In64 b) (hls : ∀ p ∈ ls, In64 p.1 ∧ In64 p.2) (hl : Rd w lv nl 2 (pairCells ls)) (hlm : nl * 16 ≤ 140737488351232) :
    Calls Try.prog 3 #[.int .i64 n, lv, .int .i64 a, .int .i64 b] w fun e w' => e = .returned (.bool true) ∧ Below w.heap.size w w' := by
  obtain ⟨la, lc, rfl, l1, l2, l3, l4⟩ := hl
  obtain ⟨n1, n2⟩ := hn
  obtain ⟨a1, a2⟩ := ha
  obtain ⟨b1, b2⟩ := hb
  have Hnl := Lib.hid hnl
  have Hls := Lib.hid hls
  have hr0 := pickN_range (c := n) (n := 50) (by omega)
  obtain ⟨m, hm⟩ : ∃ m : Nat, pickN n 50 = (m : Int) := ⟨(pickN n 50).toNat, by omega⟩
  have Hm := Lib.hid hm
  have hm2 : m < 50 := by omega
  clear hnl hls l1 hm hr0
  obtain ⟨i0, hi, hz0, hz1, hz2⟩ := info_parts info25
  go_enter Try.func3, Try.ntmps3
  go_wp2_with fail
  refine (awake_any _).mono ?_
  rintro e w0 ⟨rfl, B0⟩
  go_wp2_with fail
  refine (pick_any _ _ _ n1 n2 (by omega) (by omega)).mono ?_
  rintro e w0 ⟨rfl, rfl⟩
  rw [Hm.out]
  go_wp2_with fail
  go_loopw [10, 11] (fun v i wr => ∃ k : Nat, k ≤ nl ∧ k ≤ 100 ∧ i = .int .i64 k ∧ wr.ownsRow w.heap.size 25 2 v k (pairCells (picked (1 + m) ls k)) ∧ Below w.heap.size w wr) (fun _ i _ => 100 - (intOf i).toNat)
  case atStart => exact ⟨0, Nat.zero_le _, Nat.zero_le _, rfl, World.ownsRow_nil _ _ _ _, B0⟩
  case round =>
    clear B0
    obtain ⟨k, hk, hk2, rfl, hown, hB⟩ := hrel
    rcases (show (k < nl ∧ k < 100) ∨ ¬ k < nl ∨ (k < nl ∧ ¬ k < 100) by omega) with ⟨hlt, hlt2⟩ | hlt | ⟨hlt, hlt2⟩
    · skip
      · obtain ⟨lb, lo, rfl, hlb, hlc⟩ := l4 (by omega)
        obtain ⟨⟨p, q⟩, hpq⟩ : ∃ pq, pq = ls[k]?.getD (0, 0) := ⟨_, rfl⟩
        have hkl : k < ls.length := by have := Hnl.out; omega
        have g0 : wr.cell? ⟨lb, lo + k * 2, none⟩ = some (.int .i64 p) := by
          rw [hB.cell (by exact hlb), hlc _ (by omega), pair0 hkl, ← hpq]
        have g1 : wr.cell? ⟨lb, lo + k * 2 + 1, none⟩ = some (.int .i64 q) := by
          rw [hB.cell (by exact hlb), Nat.add_assoc, hlc _ (by omega), pair1 hkl, ← hpq]
        have hin := Hls.out (p, q) (by rw [hpq, List.getElem?_eq_getElem hkl]; exact List.getElem_mem hkl)
        obtain ⟨⟨p1, p2⟩, q1, q2⟩ := hin
        have hsucc := Lib.hid (picked_succ (1 + m) ls k hkl)
        have Hpq := Lib.hid hpq
        have hsz := hB.size
        have hnb : ∀ r, r < w.heap.size → Value.ownBlock _ ≠ some r := fun r hr e => absurd (ownBlock_ge hown e) (by omega)
        clear hpq hlc
        go_wp2_with fail
        go_region_held3 (fun wx => wx.cell? ⟨lb, lo + k * 2, none⟩ = some (.int .i64 p) ∧ wx.cell? ⟨lb, lo + k * 2 + 1, none⟩ = some (.int .i64 q)) (first
            | go_keep
            | (go_split_ands
               refine ⟨?_, ?_⟩
               · (rw [hgrow.cell_far _ (by simp; omega) (Ne.symm (hnb lb hlb))]; assumption)
               · (rw [hgrow.cell_far _ (by simp; omega) (Ne.symm (hnb lb hlb))]; assumption)))
           (first
             | (go_at_call 12; refine (pick_any _ _ _ (by assumption) (by assumption) (by omega) (by omega)).mono ?_; rintro e w' ⟨rfl, rfl⟩)
             | (refine step_append_lies _ (by rfl) _ _ _ (by rfl) w.heap.size 25 i0 _ 2 16 Try.underlying22 hi hz0 hz1 hz2 rfl (by omega) _ k (pairCells (picked (1 + m) ls k)) (by rfl) ((hown.alloc _).drew) ⟨wr.heap.size, 0, none⟩ 1 1 [.int .i64 (pickN p (1 + m)), .int .i64 (pickN q (1 + m))] (by rfl) (by rfl) (World.news_of_block (cs := #[.int .i64 (pickN p (1 + m)), .int .i64 (pickN q (1 + m))]) (t := 25) (fr := (0, 0)) (heap_alloc_new wr _)) (by simp [Value.oneCell']) (by omega) (by unfold maxLen; omega) (by omega) (by simp; omega) (wr.heap.size + 1) (by simp) ?_; intro gg cap w1 hown1 hgrow hat hlt1))
        have hB2 := (hB.alloc hsz (.cells #[.int .i64 (pickN p (1 + m)), .int .i64 (pickN q (1 + m))] 25)).drew.grown hgrow (by simp; omega) (fun r hr => ownBlock_ge hown hr)
        have hown2 : w1.ownsRow w.heap.size 25 2 (.slice (some ⟨gg, 0, none⟩) (k + 1) cap) (k + 1) (pairCells (picked (1 + m) ls (k + 1))) := by
          rw [hsucc.out, pairCells_append, ← Hpq.out]; exact hown1
        clear hown1 hgrow hown
        go_wp2
        go_roundw
        case rel => exact ⟨k + 1, by omega, by omega, by go_num, hown2, hB2⟩
        case measure => simp [intOf]; omega
    all_goals
      obtain ⟨L, hL⟩ : ∃ L, L = picked (1 + m) ls k := ⟨_, rfl⟩
      have hLl : L.length = k := by rw [hL]; exact picked_len _ _ _ (by have := Hnl.out; omega)
      rw [← hL] at hown
      clear hL
      have HLl := Lib.hid hLl
      clear hLl
      go_wp2_with fail
      refine (pick_any _ _ _ a1 a2 (by omega) (by omega)).mono ?_
      rintro e w1 ⟨rfl, rfl⟩
      go_wp2_with fail
      refine (pick_any _ _ _ b1 b2 (by omega) (by omega)).mono ?_
      rintro e w1 ⟨rfl, rfl⟩
      have ra := pickN_range (c := a) (n := 1 + m) (by omega)
      have rb := pickN_range (c := b) (n := 1 + m) (by omega)
      generalize pickN a (1 + m) = a' at *
      generalize pickN b (1 + m) = b' at *
      obtain ⟨a', rfl⟩ := Int.eq_ofNat_of_zero_le ra.1
      obtain ⟨b', rfl⟩ := Int.eq_ofNat_of_zero_le rb.1
      go_wp2_with fail
      refine (groups_at (1 + m) _ _ L [] k 0 HLl.out rfl (m + 1) (by omega) _ (Rd.of_own hown) (Rd.nil _ _ _ _ (by decide)) (by omega)).mono ?_
      rintro e w2 ⟨gv, rfl, og, hB2⟩
      obtain ⟨gg, gc, rfl⟩ := ownsRow_succ og
      have hown0 := hown
      have hown := own_new hown hB2
      have hBB := hB.trans (hB2.mono hB.size)
      have hrg := Rd.of_own og
      have hgg := ownBlock_ge og (r := gg) rfl
      have hne := fun r hr => own_lt hown0 (r := r) hr
      have hsz := hB.size
      have hsz2 := hB2.size
      clear og hB hB2 hown0
      go_wp2_with (at_builtin; refine wpList_append_own _ rfl _ _ 22 rfl w.heap.size 25 i0 (.agg #[.int .i64 0, .int .i64 0]) 2 16 Try.underlying22 hi hz0 hz1 hz2 rfl (by decide) _ _ _ rfl (hown.alloc _) ⟨w2.heap.size, 0, none⟩ 1 1 [.int .i64 a', .int .i64 b'] rfl rfl (World.news_of_block (cs := #[.int .i64 a', .int .i64 b']) (t := 25) (fr := (0, 0)) (heap_alloc_new w2 _)) (by simp [Value.oneCell']) (by unfold maxLen; omega) (by omega) (by simp; omega) ?_; intro v' w3 hown3 hgrow3 _)
      have hB3 := (hBB.alloc (by omega) (.cells #[.int .i64 a', .int .i64 b'] 25)).grown hgrow3 (by simp; omega) (fun r hr => ownBlock_ge hown hr)
      have hrg3 := (hrg.alloc (.cells #[.int .i64 a', .int .i64 b'] 25)).grown hgrow3 (fun b hb e => by
        have h1 := hne b e
        simp only [Value.ownBlock, Option.some.injEq] at hb
        omega)
      clear hgrow3 hown
      refine (groups_at (1 + m) _ _ (L ++ [((a' : Int), (b' : Int))]) [] (k + 1) 0 (by simp; exact HLl.out) rfl (m + 1) (by omega) _ (Rd.of_own (by rw [pairCells_append]; exact hown3)) (Rd.nil _ _ _ _ (by decide)) (by omega)).mono ?_
      rintro e w4 ⟨hv, rfl, oh, hB4⟩
      obtain ⟨hg, hc, rfl⟩ := ownsRow_succ oh
      have hrh := Rd.of_own oh
      rw [groups_snoc (m + 1) L (by omega) (by omega)] at hrh
      have hrg4 := hrg3.new hB4
      have hBB4 := hB3.trans (hB4.mono hB3.size)
      clear hrg3 hrg hB3 hBB hown3 oh hB4
      have hGl := groupsN_len (m + 1) [] L
      obtain ⟨G, hG⟩ : ∃ G, G = groupsN (m + 1) [] L := ⟨_, rfl⟩
      rw [← hG] at hrg4 hrh hGl
      clear hG
      have HGl := Lib.hid hGl
      have hca := hrg4.at (i := a') (by omega)
      have hcb := hrg4.at (i := b') (by omega)
      rw [ints_get (by omega)] at hca hcb
      clear hGl
      obtain ⟨ga, hga⟩ : ∃ x, x = G[a']?.getD 0 := ⟨_, rfl⟩
      obtain ⟨gb, hgb⟩ : ∃ x, x = G[b']?.getD 0 := ⟨_, rfl⟩
      rw [← hga, ← hgb] at hrh
      rw [← hga] at hca
      rw [← hgb] at hcb
      clear hga hgb
      simp only [Nat.zero_add] at hca hcb
      have ra2 := ra.2
      have rb2 := rb.2
      go_wp2_with fail
      go_loopw [14, 15] (fun i _ wr => ∃ (k j : Nat), k ≤ m + 1 ∧ i = .int .i64 k ∧ wr = w4.drewN j) (fun i _ _ => m + 1 - (intOf i).toNat)
      case atStart => exact ⟨0, 0, Nat.zero_le _, rfl, rfl⟩
      case round =>
        obtain ⟨k', j, hk', rfl, rfl⟩ := hrel
        by_cases hlt' : k' < m + 1
        · have hcg := hrg4.at (i := k') (by omega)
          have hch := hrh.at (i := k') (by omega)
          rw [ints_get (by have := HGl.out; omega)] at hcg
          rw [ints_get (by have := HGl.out; simp [joinTwo]; omega), joinTwo_get _ _ _ _ (by have := HGl.out; omega)] at hch
          simp only [Nat.zero_add] at hcg hch
          generalize G[k']?.getD 0 = gi at hcg hch
          by_cases c1 : gi = ga
          · subst c1
            rw [if_pos (.inl rfl)] at hch
            rcases Int.lt_trichotomy gi gb with h3 | h3 | h3
            · rw [Int.min_eq_left (by omega)] at hch
              go_wp2_with fail
              go_quiet (fail)
              go_wp2_with fail
              go_quiet (fail)
              go_wp2_with fail
              go_roundw
              case rel => exact ⟨k' + 1, _, by omega, by go_num, rfl⟩
              case measure => simp [intOf]; omega
            · subst h3
              rw [Int.min_self] at hch
              go_wp2_with fail
              go_quiet (fail)
              go_wp2_with fail
              go_quiet (fail)
              go_wp2_with fail
              go_roundw
              case rel => exact ⟨k' + 1, _, by omega, by go_num, rfl⟩
              case measure => simp [intOf]; omega
            · rw [Int.min_eq_right (by omega)] at hch
              go_wp2_with fail
              go_quiet (fail)
              go_wp2_with fail
              go_quiet (fail)
              go_wp2_with fail
              go_roundw
              case rel => exact ⟨k' + 1, _, by omega, by go_num, rfl⟩
              case measure => simp [intOf]; omega
          · by_cases c2 : gi = gb
            · subst c2
              rw [if_pos (.inr rfl)] at hch
              have e1 : (gi == ga) = false := by simpa using c1
              rcases Int.lt_trichotomy ga gi with h3 | h3 | h3
              · rw [Int.min_eq_left (by omega)] at hch
                clear c1
                go_wp2_with fail
                go_quiet (fail)
                go_wp2_with fail
                go_quiet (fail)
                go_wp2_with fail
                go_roundw
                case rel => exact ⟨k' + 1, _, by omega, by go_num, rfl⟩
                case measure => simp [intOf]; omega
              · omega
              · rw [Int.min_eq_right (by omega)] at hch
                clear c1
                go_wp2_with fail
                go_quiet (fail)
                go_wp2_with fail
                go_quiet (fail)
                go_wp2_with fail
                go_roundw
                case rel => exact ⟨k' + 1, _, by omega, by go_num, rfl⟩
                case measure => simp [intOf]; omega
            · rw [if_neg (by omega)] at hch
              have e1 : (gi == ga) = false := by simpa using c1
              have e2 : (gi == gb) = false := by simpa using c2
              clear c1 c2
              go_wp2_with fail
              go_quiet (fail)
              go_wp2_with fail
              go_roundw
              case rel => exact ⟨k' + 1, _, by omega, by go_num, rfl⟩
              case measure => simp [intOf]; omega
        · go_wp2
          go_ret
          exact ⟨rfl, Below.drewN' hBB4 _⟩
end Go.Proofs.Ytafljpfephomoaa
