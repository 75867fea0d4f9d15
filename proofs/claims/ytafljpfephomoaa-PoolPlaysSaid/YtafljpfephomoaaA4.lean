/- The walk of the island's Rest. -/
import Derived.Test.YtafljpfephomoaaA2
import Derived.Test.YtafljpfephomoaaM
import Derived.WalkSpells
namespace Go.Proofs.Ytafljpfephomoaa
open Go.RowKit
def loudB (gs qs : List Int) (need : Int) : Nat → Int → Bool
  | 0, _ => false
  | k + 1, g => loudB gs qs need k g || (decide (gs[k]?.getD 0 = g) && decide (qs[k]?.getD 0 < need))
def restN (gs qs : List Int) (need : Int) : List Bool := gs.map fun g => !loudB gs qs need gs.length g
theorem info4 : (Try.prog.info? 4).map (fun i => (i.zero, i.size, i.bytes)) = some (some (.bool false), 1, 1) := by kernel_rfl
theorem zero4 (w : World) : (zeroValue 4).run Try.prog w = .ok (.bool false) w := by kernel_rfl
def LoudMap (gs qs : List Int) (need : Int) (k : Nat) (f : List (Int × Value)) : Prop := ∀ g, (getA f g).getD (.bool false) = .bool (loudB gs qs need k g)
theorem LoudMap.put {gs qs : List Int} {need : Int} {k : Nat} {f : List (Int × Value)} (h : LoudMap gs qs need k f) {b : Bool} (hb : b = (loudB gs qs need k (gs[k]?.getD 0) || decide (qs[k]?.getD 0 < need))) :
    LoudMap gs qs need (k + 1) (putA f (gs[k]?.getD 0) (.bool b)) := by
  intro g
  rw [getA_putA]
  simp only [loudB]
  by_cases e : gs[k]?.getD 0 = g
  · rw [if_pos e, hb, ← e]; simp
  · rw [if_neg e, h g]; simp [e]

set_option maxRecDepth 100000 in
set_option maxHeartbeats 4000000 in
theorem rest_any (gv qv : Value) (n m : Nat) (gs qs : List Int) (hn : gs.length = n) (hm : qs.length = m) (need : Int) (w : World) (hr : Rd w gv n 1 (ints gs)) (hq : Rd w qv m 1 (ints qs)) (hb : n * 8 ≤ 140737488351232) :
    Calls Try.prog 23 #[gv, qv, .int .i64 need] w fun e w' => ∃ v, e = .returned v ∧ w'.ownsRow w.heap.size 4 1 v n (bools (restN gs qs need)) ∧ Below w.heap.size w w' := by
  obtain ⟨ga, gc, rfl, gl, gcap, gml, gx⟩ := hr
  obtain ⟨qa, qc, rfl, ql, qcap, qml, qx⟩ := hq
  have gl := Lib.hid gl
  have ql := Lib.hid ql
  have Hn := Lib.hid hn; clear hn
  have Hm := Lib.hid hm; clear hm
  unfold maxLen at gml qml
  obtain ⟨i0, hi, hz0, hz1, hz2⟩ := info_parts info4
  have hmm := @run_makeMap Try.prog
  go_enter Try.func23, Try.ntmps23
  go_wp2
  go_loopw [8, 9, 10, 17] (fun _ _ _ i wr => ∃ (k : Nat) (f : List (Int × Value)), k ≤ n ∧ i = .int .i64 k ∧ LoudMap gs qs need k f ∧ MapI wr w.heap.size f ∧ Below w.heap.size w wr) (fun _ _ _ i _ => n - (intOf i).toNat)
  case atStart => exact ⟨0, [], Nat.zero_le _, rfl, fun g => rfl, MapI.new w, (Below.refl _ _).alloc (Nat.le_refl _) _⟩
  case round =>
    obtain ⟨k, f, hk, rfl, hf, hM, hB⟩ := hrel
    by_cases hlt : k < n
    · obtain ⟨gb, goff, rfl, hgb, gcell⟩ := gx (by omega)
      have hc := (hB.cell (p := ⟨gb, goff + k, none⟩) hgb).trans (gcell k (by omega))
      rw [ints_get (by have := Hn.out; omega)] at hc
      clear gcell
      have hval : ∃ q : Int, q = qs[k]?.getD 0 ∧ (k < m → ∃ qb qo, qa = some ⟨qb, qo, none⟩ ∧ wr.cell? ⟨qb, qo + k, none⟩ = some (.int .i64 q)) := by
        refine ⟨_, rfl, fun hkm => ?_⟩
        obtain ⟨qb, qo, h1, h2, h3⟩ := qx (by omega)
        refine ⟨qb, qo, h1, ?_⟩
        rw [hB.cell (by exact h2), h3 k (by omega), ints_get (by have := Hm.out; omega)]
      obtain ⟨q, hq, hqc⟩ := hval
      have Hq := Lib.hid hq
      obtain ⟨g, hg⟩ : ∃ g, g = gs[k]?.getD 0 := ⟨_, rfl⟩
      rw [← hg] at hc
      have hfg := hf g
      have Hg := Lib.hid hg
      have hqm : k < m ∨ (m ≤ k ∧ q = 0) := by
        rcases Nat.lt_or_ge k m with h | h
        · exact .inl h
        · refine .inr ⟨h, ?_⟩
          rw [hq, List.getElem?_eq_none (by have := Hm.out; omega)]; rfl
      clear hq hg
      rcases hqm with hkm | ⟨hkm, hq0⟩
      · obtain ⟨qb, qo, rfl, hqc⟩ := hqc hkm
        by_cases hl : loudB gs qs need k g = true
        · have hput := hf.put (b := true) (by rw [← Hg.out, hl]; rfl)
          rw [← Hg.out] at hput
          go_wp2_with (first | (at_lookup; refine wpList_lookup_I _ rfl _ _ 82 false rfl 3 4 (.bool false) Try.underlying82 Try.underlying3 zero4 _ f rfl hM _ rfl ?_; simp only [Bool.false_eq_true, if_false]; rw [hfg]) | (at_mapUpdate; refine wpList_update_I _ rfl _ _ _ 82 rfl 3 4 Try.underlying82 Try.underlying3 _ f rfl hM _ rfl (.bool true) rfl ?_; intro w1 hm1 hg1 hs1))
          go_roundw
          case rel => exact ⟨k + 1, _, by omega, by go_num, hput, hm1, hB.grown hg1 hB.size (by simp)⟩
          case measure => simp [intOf]; omega
        · have hl' : loudB gs qs need k g = false := by simpa using hl
          clear hl
          have hput := hf.put (b := decide (q < need)) (by rw [← Hg.out, hl', Bool.false_or, ← Hq.out])
          rw [← Hg.out] at hput
          go_wp2_with (first | (at_lookup; refine wpList_lookup_I _ rfl _ _ 82 false rfl 3 4 (.bool false) Try.underlying82 Try.underlying3 zero4 _ f rfl hM _ rfl ?_; simp only [Bool.false_eq_true, if_false]; rw [hfg]) | (at_mapUpdate; refine wpList_update_I _ rfl _ _ _ 82 rfl 3 4 Try.underlying82 Try.underlying3 _ f rfl hM _ rfl (.bool (decide (q < need))) rfl ?_; intro w1 hm1 hg1 hs1))
          go_roundw
          case rel => exact ⟨k + 1, _, by omega, by go_num, hput, hm1, hB.grown hg1 hB.size (by simp)⟩
          case measure => simp [intOf]; omega
      · have Hq0 := Lib.hid hq0; clear hq0
        have hkm' : ¬ k < m := by omega
        by_cases hl : loudB gs qs need k g = true
        · have hput := hf.put (b := true) (by rw [← Hg.out, hl]; rfl)
          rw [← Hg.out] at hput
          go_wp2_with (first | (at_lookup; refine wpList_lookup_I _ rfl _ _ 82 false rfl 3 4 (.bool false) Try.underlying82 Try.underlying3 zero4 _ f rfl hM _ rfl ?_; simp only [Bool.false_eq_true, if_false]; rw [hfg]) | (at_mapUpdate; refine wpList_update_I _ rfl _ _ _ 82 rfl 3 4 Try.underlying82 Try.underlying3 _ f rfl hM _ rfl (.bool true) rfl ?_; intro w1 hm1 hg1 hs1))
          go_roundw
          case rel => exact ⟨k + 1, _, by omega, by go_num, hput, hm1, hB.grown hg1 hB.size (by simp)⟩
          case measure => simp [intOf]; omega
        · have hl' : loudB gs qs need k g = false := by simpa using hl
          clear hl
          have hput := hf.put (b := decide (0 < need)) (by rw [← Hg.out, hl', Bool.false_or, ← Hq.out, Hq0.out])
          rw [← Hg.out] at hput
          go_wp2_with (first | (at_lookup; refine wpList_lookup_I _ rfl _ _ 82 false rfl 3 4 (.bool false) Try.underlying82 Try.underlying3 zero4 _ f rfl hM _ rfl ?_; simp only [Bool.false_eq_true, if_false]; rw [hfg]) | (at_mapUpdate; refine wpList_update_I _ rfl _ _ _ 82 rfl 3 4 Try.underlying82 Try.underlying3 _ f rfl hM _ rfl (.bool (decide (0 < need))) rfl ?_; intro w1 hm1 hg1 hs1))
          go_roundw
          case rel => exact ⟨k + 1, _, by omega, by go_num, hput, hm1, hB.grown hg1 hB.size (by simp)⟩
          case measure => simp [intOf]; omega
    · obtain rfl : n = k := by omega
      have hsz := hB.size
      obtain ⟨wO, hwO⟩ : ∃ wO : World, wO = wr := ⟨_, rfl⟩
      subst hwO
      go_wp2_with (at_make; refine wpList_make_full _ rfl _ _ 35 rfl w.heap.size 4 i0 (.bool false) 1 Try.underlying35 hi hz0 hz1 .i64 .i64 _ _ n rfl rfl rfl rfl (by rw [hz2]; omega) (by unfold maxLen; omega) hsz ?_; intro w2 hown2 hg2)
      have hO := own_blk hown2
      rw [made_cells _ rfl, ← Hn.out, show gs.length = (bools (restN gs qs need)).length by simp [restN], ← fillTo_zero] at hO
      have hM2 := hM.grown hg2 (by simp)
      have hMlt := hM.lt
      have hB3 := hB.grown hg2 hsz (by simp)
      have hOlt := hO.lt
      clear hown2 hg2 hM hB
      go_loopw [12, 13, 46] (fun _ _ i wr => ∃ (k : Nat), k ≤ n ∧ i = .int .i64 k ∧ MapI wr w.heap.size f ∧ Blk wr wO.heap.size 4 (fillTo (bools (restN gs qs need)) (.bool false) k) ∧ Below w.heap.size w wr) (fun _ _ i _ => n - (intOf i).toNat)
      case atStart => exact ⟨0, Nat.zero_le _, rfl, hM2, hO, hB3⟩
      case round =>
        clear hM2 hO hB3
        obtain ⟨k, hk, rfl, hM, hO, hB⟩ := hrel
        by_cases hlt : k < n
        · obtain ⟨gb, goff, rfl, hgb, gcell⟩ := gx (by omega)
          have hc := (hB.cell (p := ⟨gb, goff + k, none⟩) hgb).trans (gcell k (by omega))
          rw [ints_get (by have := Hn.out; omega)] at hc
          clear gcell
          have hlen : k < (bools (restN gs qs need)).length := by simp [restN, Hn.out]; exact hlt
          have cO := hO.cell k
          rw [fillTo_get _ _ _ hlen] at cO
          have fO := hO.frozen k
          have hget : (bools (restN gs qs need))[k]? = some (.bool (!loudB gs qs need n (gs[k]?.getD 0))) := by
            have hk2 : k < gs.length := by have := Hn.out; omega
            simp [restN, List.getElem?_eq_getElem hk2, Hn.out]
          have hO2 := hO.set k (.bool (!loudB gs qs need n (gs[k]?.getD 0)))
          rw [fillTo_set _ _ _ _ hget] at hO2
          have hM2 := hM.setCell ⟨wO.heap.size, k, none⟩ (.bool (!loudB gs qs need n (gs[k]?.getD 0)))
          have hB2 := hB.setCell (p := ⟨wO.heap.size, k, none⟩) hsz (.bool (!loudB gs qs need n (gs[k]?.getD 0)))
          have hfg := hf (gs[k]?.getD 0)
          have Hget := Lib.hid hget
          clear hget hlen
          go_wp2_with (at_lookup; refine wpList_lookup_I _ rfl _ _ 82 false rfl 3 4 (.bool false) Try.underlying82 Try.underlying3 zero4 _ f rfl hM _ rfl ?_; simp only [Bool.false_eq_true, if_false]; rw [hfg])
          go_roundw
          case rel => exact ⟨k + 1, by omega, by go_num, hM2, hO2, hB2⟩
          case measure => simp [intOf]; omega
        · obtain rfl : n = k := by omega
          have hl : (bools (restN gs qs need)).length = n := by simp [restN, Hn.out]
          rw [← hl, fillTo_all] at hO
          have Hl := Lib.hid hl; clear hl
          go_wp2
          go_ret
          exact ⟨_, rfl, ownsRow_blk hO (by rw [Hl.out, Nat.mul_one]) (by unfold maxLen; omega) hsz, hB⟩
end Go.Proofs.Ytafljpfephomoaa
