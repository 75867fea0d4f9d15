/- The walks of the island's Members, and of the law's own numbers. -/
import Derived.Test.YtafljpfephomoaaA1
import Derived.Deep.QuietTactic
import Derived.BigQuiet
import Derived.RangeFuncBox
import Derived.Maps.AppendAt
import Derived.WalkSmall
namespace Go.Proofs.Ytafljpfephomoaa
open Go.RowKit
def memTo (gs : List Int) (o : Int) : Nat → List Int
  | 0 => []
  | k + 1 => if gs[k]?.getD 0 = o then memTo gs o k ++ [(k : Int)] else memTo gs o k
theorem memTo_le (gs : List Int) (o : Int) (k : Nat) : (memTo gs o k).length ≤ k := by
  induction k with
  | zero => simp [memTo]
  | succ k ih => 
    unfold memTo; split
    · simp; omega
    · omega
theorem memTo_hit (gs : List Int) (o : Int) (k : Nat) (h : gs[k]?.getD 0 = o) : memTo gs o (k + 1) = memTo gs o k ++ [(k : Int)] := by simp only [memTo, if_pos h]
theorem memTo_miss (gs : List Int) (o : Int) (k : Nat) (h : ¬ gs[k]?.getD 0 = o) : memTo gs o (k + 1) = memTo gs o k := by simp only [memTo, if_neg h]
theorem info3 : (Try.prog.info? 3).map (fun i => (i.zero, i.size, i.bytes)) = some (some (.int .i64 0), 1, 8) := by kernel_rfl

/-- A slice that the call made itself, cut at its length: what it reads. -/
theorem own_clip {w : World} {base : Nat} {e : TypeId} {v : Value} {n sz : Nat} {xs : List Value} (h : w.ownsRow base e sz v n xs) : ∃ ao cap, v = .slice ao n cap ∧ n ≤ cap ∧ cap ≤ maxLen ∧ RdN base w (.slice ao n n) n sz xs := by
  have hr := Rd.of_own h
  obtain ⟨h1, h2⟩ := h
  rcases h2 with ⟨rfl, rfl⟩ | ⟨g, cap, cur, rfl, hg, hh, hn, hm, hsz, hx⟩
  · exact ⟨none, 0, rfl, Nat.le_refl _, by decide, hr, by simp [Value.ownBlock]⟩
  · refine ⟨_, cap, rfl, hn, hm, ?_, by simp [Value.ownBlock]; exact hg⟩
    obtain ⟨ao, cap', e, k1, k2, k3, k4⟩ := hr
    simp only [Value.slice.injEq] at e
    obtain ⟨rfl, _, rfl⟩ := e
    exact ⟨_, n, rfl, k1, Nat.le_refl _, by omega, k4⟩

theorem members_any (gv : Value) (n : Nat) (gs : List Int) (hn : gs.length = n) (o : Int) (w : World) (hr : Rd w gv n 1 (ints gs)) (hm : n * 8 ≤ 140737488351232) :
    Calls Try.prog 25 #[gv, .int .i64 o] w fun e w' => ∃ v, e = .returned v ∧ RdN w.heap.size w' v (memTo gs o n).length 1 (ints (memTo gs o n)) ∧ Below w.heap.size w w' := by
  obtain ⟨ao, cap, rfl, hl, hcap, hml, hx⟩ := hr
  have hl := Lib.hid hl
  obtain ⟨i0, hi, hz0, hz1, hz2⟩ := info_parts info3
  have Hn := Lib.hid hn; clear hn
  go_enter Try.func25, Try.ntmps25
  go_wp2
  go_loopw [5, 10] (fun v i wr => ∃ k : Nat, k ≤ n ∧ i = .int .i64 k ∧ wr.ownsRow w.heap.size 3 1 v (memTo gs o k).length (ints (memTo gs o k)) ∧ Below w.heap.size w wr) (fun _ i _ => n - (intOf i).toNat)
  case atStart => exact ⟨0, Nat.zero_le _, rfl, World.ownsRow_nil _ _ _ _, Below.refl _ _⟩
  case round =>
    obtain ⟨k, hk, rfl, hown, hbel⟩ := hrel
    by_cases hlt : k < n
    · obtain ⟨b, off, rfl, hb, hc⟩ := hx (by omega)
      have hc' : wr.cell? ⟨b, off + k, none⟩ = some (.int .i64 (gs[k]?.getD 0)) := by
        rw [hbel.cell (by exact hb), hc k (by omega), ints_get (by have := Hn.out; omega)]
      clear hc
      have hle := memTo_le gs o k
      by_cases e : gs[k]?.getD 0 = o
      · have he : (gs[k]?.getD 0 == o) = true := by simpa using e
        have hmt := Lib.hid (memTo_hit gs o k e)
        clear e
        go_wp2_with (at_builtin; refine wpList_append_own _ rfl _ _ 26 rfl w.heap.size 3 i0 (.int .i64 0) 1 8 Try.underlying26 hi hz0 hz1 hz2 rfl (by decide) _ _ _ rfl (hown.alloc _) ⟨wr.heap.size, 0, none⟩ 1 1 [.int .i64 k] rfl rfl (cell_one_new _ _ _) (by simp [Value.oneCell']) (by unfold maxLen; omega) (by omega) (by have := hbel.size; simp; omega) ?_; intro v' w1 hown' hgrow _)
        have hb1 : Below w.heap.size w w1 := (hbel.alloc hbel.size _).grown hgrow (by have := hbel.size; simp; omega) (fun r hr => ownBlock_ge hown hr)
        go_roundw
        case rel => exact ⟨k + 1, by omega, by go_num, by rw [hmt.out]; simpa [ints] using hown', hb1⟩
        case measure => simp [intOf]; omega
      · have he : (gs[k]?.getD 0 == o) = false := by simpa using e
        rw [← memTo_miss gs o k e] at hown
        clear e
        go_wp2
        go_roundw
        case rel => exact ⟨k + 1, by omega, by go_num, hown, hbel⟩
        case measure => simp [intOf]; omega
    · obtain rfl : k = n := by omega
      obtain ⟨ao, cap, rfl, h1, h2, h3⟩ := own_clip hown
      go_wp2_with (go_at_call 45; refine (clip_any _ _ _ _ h1 h2).mono ?_; rintro e w' ⟨rfl, rfl⟩)
      go_ret
      exact ⟨_, rfl, h3, hbel⟩
end Go.Proofs.Ytafljpfephomoaa
