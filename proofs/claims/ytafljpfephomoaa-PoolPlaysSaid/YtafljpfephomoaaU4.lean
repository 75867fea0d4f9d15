/- The pool's iterator over all. -/
import Derived.Test.YtafljpfephomoaaU3
import Derived.Stop.RegionWithIn
namespace Go.Proofs.Ytafljpfephomoaa
open Go.RowKit Go.Shelf
variable {cp : Nat} {ex : List Value}
attribute [local go_sem] Oper.semAt_some
def allTo (sl : List Slot) : Nat → List (Int × Int)
  | 0 => []
  | k + 1 => match sl[k]? with | some s => if s.full = true then allTo sl k ++ [(s.age * 65536 + k + 1, s.what)] else allTo sl k | none => allTo sl k
theorem allTo_split (sl : List Slot) (k : Nat) (s : Slot) (hs : sl[k]? = some s) (hf : s.full = true) : ∀ m, k < m → ∃ post, allTo sl m = allTo sl k ++ (s.age * 65536 + k + 1, s.what) :: post := by
  intro m
  induction m with
  | zero => intro h; omega
  | succ m ih =>
    intro h
    rcases Nat.lt_or_ge k m with h1 | h1
    · obtain ⟨post, hp⟩ := ih h1
      simp only [allTo]
      split
      · split
        · rename_i s' _ _
          exact ⟨post ++ [(s'.age * 65536 + m + 1, s'.what)], by rw [hp]; simp⟩
        · exact ⟨post, hp⟩
      · exact ⟨post, hp⟩
    · obtain rfl : k = m := by omega
      exact ⟨[], by simp only [allTo, hs, if_pos hf]⟩
set_option maxHeartbeats 2000000 in
theorem all_seq (n : Nat) (hn : 1 ≤ n) (bb p sb N : Nat) (sl : List Slot) (many : Int) (w : World) (hbox : Blk w bb 30 [.pointer (some ⟨p, 0, none⟩)]) (hp : PoolAt w p sb N cp ex sl many) :
    SeqL Fence.wide n Try.prog 46 #[.pointer (some ⟨bb, 0, none⟩)] (fun q : Int × Int => #[.int .i64 q.1, .int .i64 q.2]) (KeepB [p, sb, bb]) (allTo sl N) w := by
  intro l J Jx W hW hJ hJx hY h0
  have hbW := hbox.below hW hbox.lt
  have hpW := hp.below hW hp.head.lt hp.slots.lt
  have c0 := hpW.head.cell 0
  have cb := hbW.cell 0
  simp only [List.getElem?_cons_zero] at c0 cb
  have hN := hp.room
  have Hlen := Lib.hid hp.len
  have hlt0 : ∀ b ∈ [p, sb, bb], b < W.heap.size := by
    intro b hb
    simp only [List.mem_cons, List.not_mem_nil, or_false] at hb
    rcases hb with rfl | rfl | rfl
    · exact hpW.head.lt
    · exact hpW.slots.lt
    · exact hbW.lt
  refine callsIn_of_wp Try.func46 rfl trivial ?_ rfl
  simp only [Try.ntmps46, List.size_toArray, List.length_cons, List.length_nil, Nat.reduceAdd, Nat.reduceSub, Array.replicate_succ, Array.replicate_zero, List.push_toArray, List.append_toArray, List.nil_append, List.cons_append]
  gi_wp2
  refine wpIn_scope ?_
  gi_wp2
  refine wpIn_label ?_
  gi_wp2
  gi_loopw [3, 9, 12] (fun _ i _ wr => ∃ k : Nat, k ≤ N ∧ i = .int .i64 k ∧ J (allTo sl k) wr ∧ KeepB [p, sb, bb] W wr) (fun _ i _ _ => N - (intOf i).toNat)
  case atStart => exact ⟨0, Nat.zero_le _, rfl, h0, fun _ _ => rfl⟩
  case round =>
    obtain ⟨k, hk, rfl, hJk, hKk⟩ := hrel
    by_cases hlt : k < N
    · obtain ⟨s, hs⟩ : ∃ s, sl[k]? = some s := ⟨_, List.getElem?_eq_getElem (by have := Hlen.out; omega)⟩
      have hpr : PoolAt wr p sb N cp ex sl many := ⟨hpW.len, hpW.head.keep (hKk p (by simp)), hpW.slots.keep (hKk sb (by simp)), hpW.ne, hpW.room, hpW.ages, hpW.many, hpW.cap⟩
      obtain ⟨d0, d1, d2, _⟩ := hpr.slot hs
      have c0r := hpr.head.cell 0
      have cbr := (hbW.keep (hKk bb (by simp))).cell 0
      simp only [List.getElem?_cons_zero] at c0r cbr
      have hkn : (k : Int) < (N : Int) := by omega
      have hH := handle_any p sb N k sl many wr.drew ⟨hpr.len, hpr.head, hpr.slots, hpr.ne, hpr.room, hpr.ages, hpr.many, hpr.cap⟩ s hs
      obtain ⟨age, full, what⟩ := s
      simp only at d0 d1 d2 hH
      cases full with
      | false =>
        have hno : allTo sl (k + 1) = allTo sl k := by simp [allTo, hs]
        rw [← hno] at hJk
        clear hs hno hH
        gi_wp2
        go_roundw
        case rel => exact ⟨k + 1, by omega, by go_num, hJk, hKk⟩
        case measure => simp [intOf]; omega
      | true =>
        obtain ⟨post, hpost⟩ := allTo_split sl k ⟨age, true, what⟩ hs rfl N hlt
        have hnx : allTo sl (k + 1) = allTo sl k ++ [(age * 65536 + k + 1, what)] := by simp [allTo, hs]
        have hJd : J (allTo sl k) wr.drew := hJ _ _ _ none hJk ⟨rfl, rfl, rfl, Nat.le_refl _, fun _ _ _ => rfl⟩ (fun r e => by cases e)
        obtain ⟨fn, tmps, assign, body, hy, hR⟩ := (hY _ (age * 65536 + k + 1, what) _ hJd ⟨post, hpost⟩).mono (R' := fun e W' => ∃ b, e = .returned (.bool b) ∧ ((b = true ∧ J (allTo sl k ++ [(age * 65536 + k + 1, what)]) W' ∧ KeepB [p, sb, bb] wr.drew W') ∨ (b = false ∧ Jx (allTo sl k ++ [(age * 65536 + k + 1, what)]) W')))
          (fun e W' h => by rcases h with ⟨rfl, h⟩ | ⟨rfl, h⟩; exact ⟨true, rfl, .inl ⟨rfl, h⟩⟩; exact ⟨false, rfl, .inr ⟨rfl, h⟩⟩)
        dsimp only at hy hR
        have Hnx := Lib.hid hnx
        have Hpost := Lib.hid hpost
        clear hs hnx hpost
        gi_wp2_with fail
        gi_region_with (first | (refine ⟨trivial, ?_⟩; gi_at_call 41; refine (callsIn_wide.2 hH).mono ?_; rintro e w' ⟨rfl, rfl⟩) | (refine hR.mono ?_; rintro e W3 ⟨b, rfl, hb⟩))
        all_goals
          rcases hb with ⟨rfl, hJ3, hk3⟩ | ⟨rfl, hJx3⟩
          · gi_wp2
            go_roundw
            case rel => exact ⟨k + 1, by omega, by go_num, by rw [Hnx.out]; exact hJ3, hKk.trans hk3⟩
            case measure => simp [intOf]; omega
          · gi_wp2
            rw [Exit.noGoto_normal]
            refine bodyPost_end (results_none rfl _ _ _) rfl ?_
            exact ⟨⟨_, rfl⟩, .inr ⟨_, ⟨post, by rw [Hpost.out]; simp⟩, hJx3⟩⟩
    · obtain rfl : N = k := by omega
      gi_wp2
      rw [Exit.noGoto_normal]
      go_end0
      exact ⟨⟨_, rfl⟩, .inl hJk⟩
end Go.Proofs.Ytafljpfephomoaa
