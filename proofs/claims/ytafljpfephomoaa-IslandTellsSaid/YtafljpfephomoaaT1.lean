/- The island's reference: its small functions. -/
import Derived.Test.YtafljpfephomoaaC
import Derived.Test.YtafljpfephomoaaR
import Derived.Deep.LoopGhost
import Derived.Deep.QuietTactic
import Derived.BigQuiet
namespace Go.Proofs.Ytafljpfephomoaa
open Go.RowKit
theorem bound_any (n : Int) (w : World) : Calls Try.prog 43 #[.int .i64 n] w fun e w' => e = .returned (.int .i64 (min (max n 0) 4096)) ∧ w = w' := by
  go_enter Try.func43, Try.ntmps43
  go_wp2
  all_goals
    go_ret
    exact ⟨ret_int (by omega), rfl⟩
def wallB (ws : List Bool) (i : Int) : Bool := decide (i < ws.length) && ws[i.toNat]?.getD false
theorem wall_any (wv : Value) (m : Nat) (ws : List Bool) (hm : ws.length = m) (k : Nat) (w : World) (hw : Rd w wv m 1 (bools ws)) (hk : k ≤ 4096) :
    Calls Try.prog 44 #[wv, .int .i64 k] w fun e w' => e = .returned (.bool (wallB ws k)) ∧ w = w' := by
  obtain ⟨wa, wc, rfl, w1, w2⟩ := hw.shape
  by_cases h : k < m
  · obtain ⟨b, o, rfl⟩ := hw.addr (by omega)
    have c := hw.bool hm h
    have hfin : wallB ws k = ws[k]?.getD false := by
      simp [wallB, hm, h]
    have Hfin := Lib.hid hfin
    clear hfin hm
    go_enter Try.func44, Try.ntmps44
    go_wp2
    go_ret
    exact ⟨ret_bool Hfin.out.symm, rfl⟩
  · have hfin : wallB ws k = false := by
      simp [wallB, hm, show ¬ (k : Int) < (m : Int) by omega]
    have Hfin := Lib.hid hfin
    clear hfin hm
    go_enter Try.func44, Try.ntmps44
    go_wp2
    go_ret
    exact ⟨ret_bool Hfin.out.symm, rfl⟩
theorem refmembers_any (gv : Value) (n : Nat) (gs : List Int) (hn : gs.length = n) (o : Int) (w : World) (hr : Rd w gv n 1 (ints gs)) (hm : n * 8 ≤ 140737488351232) :
    Calls Try.prog 26 #[gv, .int .i64 o] w fun e w' => ∃ v, e = .returned v ∧ w'.ownsRow w.heap.size 3 1 v (memTo gs o n).length (ints (memTo gs o n)) ∧ Below w.heap.size w w' := by
  obtain ⟨ao, cap, rfl, hl, hcap, hml, hx⟩ := hr
  have hl := Lib.hid hl
  obtain ⟨i0, hi, hz0, hz1, hz2⟩ := info_parts info3
  have Hn := Lib.hid hn; clear hn
  go_enter Try.func26, Try.ntmps26
  go_wp2
  go_loopw [5, 6] (fun v i wr => ∃ k : Nat, k ≤ n ∧ i = .int .i64 k ∧ wr.ownsRow w.heap.size 3 1 v (memTo gs o k).length (ints (memTo gs o k)) ∧ Below w.heap.size w wr) (fun _ i _ => n - (intOf i).toNat)
  case atStart => exact ⟨0, Nat.zero_le _, rfl, World.ownsRow_nil _ _ _ _, Below.refl _ _⟩
  case round =>
    obtain ⟨k, hk, rfl, hown, hbel⟩ := hrel
    by_cases hlt : k < n
    · obtain ⟨b, off, rfl, hb, hc⟩ := hx (by omega)
      have hc' : wr.cell? ⟨b, off + k, none⟩ = some (.int .i64 (gs[k]?.getD 0)) := by
        rw [hbel.cell (by exact hb), hc k (by omega), ints_get (by have := Hn.out; omega)]
      clear hc
      have hle := memTo_le gs o k
      by_cases e : gs[k]?.getD 0 = o
      · have he : (gs[k]?.getD 0 == o) = true := by simpa using e
        have hmt := Lib.hid (memTo_hit gs o k e)
        clear e
        go_wp2_with (at_builtin; refine wpList_append_own _ rfl _ _ 26 rfl w.heap.size 3 i0 (.int .i64 0) 1 8 Try.underlying26 hi hz0 hz1 hz2 rfl (by decide) _ _ _ rfl (hown.alloc _) ⟨wr.heap.size, 0, none⟩ 1 1 [.int .i64 k] rfl rfl (cell_one_new _ _ _) (by simp [Value.oneCell']) (by unfold maxLen; omega) (by omega) (by have := hbel.size; simp; omega) ?_; intro v' w1 hown' hgrow _)
        have hb1 : Below w.heap.size w w1 := (hbel.alloc hbel.size _).grown hgrow (by have := hbel.size; simp; omega) (fun r hr => ownBlock_ge hown hr)
        go_roundw
        case rel => exact ⟨k + 1, by omega, by go_num, by rw [hmt.out]; simpa [ints] using hown', hb1⟩
        case measure => simp [intOf]; omega
      · have he : (gs[k]?.getD 0 == o) = false := by simpa using e
        rw [← memTo_miss gs o k e] at hown
        clear e
        go_wp2
        go_roundw
        case rel => exact ⟨k + 1, by omega, by go_num, hown, hbel⟩
        case measure => simp [intOf]; omega
    · obtain rfl : k = n := by omega
      go_wp2
      go_ret
      exact ⟨_, rfl, hown, hbel⟩
/-- What the reference says of one thing: nobody of its group is loud. -/
def quietTo (gs qs : List Int) (need g : Int) (k : Nat) : Bool := !loudB gs qs need k g
set_option maxHeartbeats 2000000 in
theorem refrest_any (gv qv : Value) (n m : Nat) (gs qs : List Int) (hn : gs.length = n) (hm : qs.length = m) (need : Int) (w : World) (hr : Rd w gv n 1 (ints gs)) (hq : Rd w qv m 1 (ints qs)) (hb : n * 8 ≤ 140737488351232) :
    Calls Try.prog 24 #[gv, qv, .int .i64 need] w fun e w' => ∃ v, e = .returned v ∧ w'.ownsRow w.heap.size 4 1 v n (bools (restN gs qs need)) ∧ Below w.heap.size w w' := by
  obtain ⟨ga, gc, rfl, g1, g2⟩ := hr.shape
  obtain ⟨qa, qc, rfl, q1, q2⟩ := hq.shape
  have Hn := Lib.hid hn; clear hn
  have Hm := Lib.hid hm; clear hm
  obtain ⟨i4, hi4, hz4a, hz4b, hz4c⟩ := info_parts info4
  go_enter Try.func24, Try.ntmps24
  go_wp2
  go_loopw [7, 8] (fun v i wr => ∃ k : Nat, k ≤ n ∧ i = .int .i64 k ∧ wr.ownsRow w.heap.size 4 1 v k (bools ((gs.take k).map fun g => !loudB gs qs need n g)) ∧ Below w.heap.size w wr) (fun _ i _ => n - (intOf i).toNat)
  case atStart => exact ⟨0, Nat.zero_le _, rfl, World.ownsRow_nil _ _ _ _, Below.refl _ _⟩
  case round =>
    obtain ⟨k, hk, rfl, hown, hbel⟩ := hrel
    by_cases hlt : k < n
    · obtain ⟨gb, go, rfl⟩ := hr.addr (by omega)
      have hrr := hr.new hbel
      have hqr := hq.new hbel
      have ck := hrr.int Hn.out hlt
      have hsz := hbel.size
      obtain ⟨wr0, hwr0⟩ : ∃ wr0, wr0 = wr := ⟨_, rfl⟩
      obtain ⟨G, hG⟩ : ∃ G, G = gs[k]?.getD 0 := ⟨_, rfl⟩
      rw [← hG] at ck
      have HG := Lib.hid hG
      clear hG
      go_wp2_with fail
      go_loopw [9, 10, 11] (fun b j _ wx => ∃ l : Nat, l ≤ n ∧ j = .int .i64 l ∧ b = .bool (!loudB gs qs need l G) ∧ ∃ nd, wx = wr.drewN nd) (fun _ j _ _ => n - (intOf j).toNat)
      case atStart => exact ⟨0, Nat.zero_le _, rfl, rfl, 0, rfl⟩
      case round =>
        obtain ⟨l, hl, rfl, rfl, nd, rfl⟩ := hrel
        by_cases hll : l < n
        · have cl := hrr.int Hn.out hll
          have ck2 : (wr.drewN nd).cell? ⟨gb, go + k, none⟩ = some (.int .i64 G) := ck
          have hkn : (k : Int) < (n : Int) := by omega
          have hln : (l : Int) < (n : Int) := by omega
          obtain ⟨E, hE⟩ : ∃ E, E = gs[l]?.getD 0 := ⟨_, rfl⟩
          obtain ⟨Q, hQ⟩ : ∃ Q, Q = qs[l]?.getD 0 := ⟨_, rfl⟩
          have hstep : loudB gs qs need (l + 1) G = (loudB gs qs need l G || (decide (E = G) && decide (Q < need))) := by rw [hE, hQ]; rfl
          rw [← hE] at cl
          have Hstep := Lib.hid hstep
          clear hstep hE
          have hE1 : (E == G) = true ∨ (E == G) = false := by cases (E == G) <;> simp
          have hQ1 : decide (Q < need) = true ∨ decide (Q < need) = false := by cases (decide (Q < need)) <;> simp
          by_cases hlm : l < m
          · obtain ⟨qb, qo, rfl⟩ := hq.addr (by omega)
            have cq := hqr.int Hm.out hlm
            rw [← hQ] at cq
            clear hQ
            rcases hE1 with hE1 | hE1
            · rcases hQ1 with hQ1 | hQ1
              all_goals
                go_wp2
                go_quiet (fail)
                go_wp2
                go_roundw
                case rel => exact ⟨l + 1, by omega, by go_num, by rw [Hstep.out]; clear Hstep; simp at hE1 hQ1; simp [hE1, hQ1], _, rfl⟩
                case measure => simp [intOf]; omega
            · clear hQ1
              go_wp2
              go_quiet (fail)
              go_wp2
              go_roundw
              case rel => exact ⟨l + 1, by omega, by go_num, by rw [Hstep.out]; clear Hstep; simp at hE1; simp [hE1], _, rfl⟩
              case measure => simp [intOf]; omega
          · have hQ0 : Q = 0 := by rw [hQ, List.getElem?_eq_none (by have := Hm.out; omega)]; rfl
            subst hQ0
            clear hQ
            rcases hE1 with hE1 | hE1
            · rcases hQ1 with hQ1 | hQ1
              all_goals
                go_wp2
                go_quiet (fail)
                go_wp2
                go_roundw
                case rel => exact ⟨l + 1, by omega, by go_num, by rw [Hstep.out]; clear Hstep; simp at hE1 hQ1; simp [hE1, hQ1], _, rfl⟩
                case measure => simp [intOf]; omega
            · clear hQ1
              go_wp2
              go_quiet (fail)
              go_wp2
              go_roundw
              case rel => exact ⟨l + 1, by omega, by go_num, by rw [Hstep.out]; clear Hstep; simp at hE1; simp [hE1], _, rfl⟩
              case measure => simp [intOf]; omega
        · obtain rfl : l = n := by omega
          have hkl : k < gs.length := by rw [Hn.out]; exact hlt
          go_wp2_with (at_builtin; refine wpList_append_own _ rfl _ _ 35 rfl w.heap.size 4 i4 (.bool false) 1 1 Try.underlying35 hi4 hz4a hz4b hz4c rfl (by decide) _ _ _ rfl ((own_new hown (Below.drewN' (Below.refl _ wr) nd)).alloc _) ⟨wr.heap.size, 0, none⟩ 1 1 [.bool (!loudB gs qs need l G)] rfl rfl (cell_one_new _ _ _) (by simp [Value.oneCell']) (by unfold maxLen; omega) (by omega) (by simp; omega) ?_; intro v' w1 hown' hgrow _)
          have hb1 : Below w.heap.size w w1 := ((Below.drewN' hbel nd).alloc hsz _).grown hgrow (by simp; omega) (fun r hr => ownBlock_ge hown hr)
          go_roundw
          case rel =>
            refine ⟨k + 1, by omega, by go_num, ?_, hb1⟩
            rw [List.take_succ_eq_append_getElem hkl, List.map_append]
            have e : gs[k] = G := by rw [HG.out, List.getElem?_eq_getElem hkl]; rfl
            simp only [List.map_cons, List.map_nil, e]
            simpa [bools] using hown'
          case measure => simp [intOf]; omega
    · obtain rfl : k = n := by omega
      go_wp2
      go_ret
      refine ⟨_, rfl, ?_, hbel⟩
      have e1 := Hn.out
      have e2 : restN gs qs need = (gs.take k).map fun g => !loudB gs qs need k g := by
        rw [← e1, List.take_length]; rfl
      rw [e2]
      exact hown
end Go.Proofs.Ytafljpfephomoaa
