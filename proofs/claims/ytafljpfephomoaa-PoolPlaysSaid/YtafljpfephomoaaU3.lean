/- The pool's iterators. -/
import Derived.Test.YtafljpfephomoaaU2
import Derived.Test.YtafljpfephomoaaRg
namespace Go.Proofs.Ytafljpfephomoaa
open Go.RowKit Go.Shelf
variable {cp : Nat} {ex : List Value}
attribute [local go_sem] Oper.semAt_some
def isFree (sl : List Slot) (k : Nat) : Bool := match sl[k]? with | some s => !s.full && decide (s.age ≤ 1073741824) | none => false
def freesTo (sl : List Slot) : Nat → List Nat
  | 0 => []
  | k + 1 => if isFree sl k = true then freesTo sl k ++ [k] else freesTo sl k
theorem Blk.keep {w w' : World} {b : Nat} {t : TypeId} {vs : List Value} (h : Blk w b t vs) (hk : w'.heap[b]? = w.heap[b]?) : Blk w' b t vs := by
  unfold Blk at *; rw [hk]; exact h
theorem keep_lt {W W' : World} {b : Nat} (h : W'.heap[b]? = W.heap[b]?) (hb : b < W.heap.size) : b < W'.heap.size := by
  rw [Array.getElem?_eq_getElem hb] at h
  exact (Array.getElem?_eq_some_iff.1 h).1
theorem freesTo_split (sl : List Slot) (k : Nat) (hk : isFree sl k = true) : ∀ m, k < m → ∃ post, freesTo sl m = freesTo sl k ++ k :: post := by
  intro m
  induction m with
  | zero => intro h; omega
  | succ m ih =>
    intro h
    rcases Nat.lt_or_ge k m with h1 | h1
    · obtain ⟨post, hp⟩ := ih h1
      simp only [freesTo]
      split
      · exact ⟨post ++ [m], by rw [hp]; simp⟩
      · exact ⟨post, hp⟩
    · obtain rfl : k = m := by omega
      exact ⟨[], by simp only [freesTo, if_pos hk]⟩
theorem free_seq (F : Fence) (n : Nat) (hF : F.fn 50) (hro : F.round = none) (hn : 1 ≤ n) (bb p sb N : Nat) (sl : List Slot) (many : Int) (w : World) (hbox : Blk w bb 30 [.pointer (some ⟨p, 0, none⟩)]) (hp : PoolAt w p sb N cp ex sl many) :
    SeqL F n Try.prog 50 #[.pointer (some ⟨bb, 0, none⟩)] (fun i : Nat => #[.int .i64 i]) (KeepB [p, sb, bb]) (freesTo sl N) w := by
  intro l J Jx W hW hJ hJx hY h0
  have hbW := hbox.below hW hbox.lt
  have hpW := hp.below hW hp.head.lt hp.slots.lt
  have hlt1 := Nat.lt_of_lt_of_le hbox.lt hW.size
  have c0 := hpW.head.cell 0
  have cb := hbW.cell 0
  simp only [List.getElem?_cons_zero] at c0 cb
  have hN := hp.room
  have Hlen := Lib.hid hp.len
  have hlt0 : ∀ b ∈ [p, sb, bb], b < W.heap.size := by
    intro b hb
    simp only [List.mem_cons, List.not_mem_nil, or_false] at hb
    rcases hb with rfl | rfl | rfl
    · exact hpW.head.lt
    · exact hpW.slots.lt
    · exact hbW.lt
  refine callsIn_of_wp Try.func50 rfl hF ?_ hro
  simp only [Try.ntmps50, List.size_toArray, List.length_cons, List.length_nil, Nat.reduceAdd, Nat.reduceSub, Array.replicate_succ, Array.replicate_zero, List.push_toArray, List.append_toArray, List.nil_append, List.cons_append]
  gi_wp2
  gi_loopw [10] (fun i wr => ∃ k : Nat, k ≤ N ∧ i = .int .i64 k ∧ J (freesTo sl k) wr ∧ KeepB [p, sb, bb] W wr) (fun i _ => N - (intOf i).toNat)
  case atStart => exact ⟨0, Nat.zero_le _, rfl, h0, fun _ _ => rfl⟩
  case round =>
    obtain ⟨k, hk, rfl, hJk, hKk⟩ := hrel
    by_cases hlt : k < N
    · obtain ⟨⟨age, full, what⟩, hs⟩ : ∃ s, sl[k]? = some s := ⟨_, List.getElem?_eq_getElem (by have := Hlen.out; omega)⟩
      obtain ⟨d0, d1, d2, _⟩ := hpW.slot hs
      have ks : ∀ o, wr.cell? ⟨sb, o, none⟩ = W.cell? ⟨sb, o, none⟩ := fun o => World.cell?_of_block (w := W) (hKk sb (by simp))
      have e0 := (ks _).trans d0
      have e1 := (ks _).trans d1
      have e2 := (ks _).trans d2
      simp only at e0 e1 e2
      have hJa : J (freesTo sl k) (wr.alloc (.cells #[.int .i64 age, .bool full, .int .i64 what] 77)) := hJ _ _ _ none hJk (World.grownBy_alloc wr _ none) (fun r e => by cases e)
      have hKa : KeepB [p, sb, bb] W (wr.alloc (.cells #[.int .i64 age, .bool full, .int .i64 what] 77)) := fun b hb => (Below.heap_alloc _ _ _ (keep_lt (hKk b hb) (hlt0 b hb))).trans (hKk b hb)
      have hkn : (k : Int) < (N : Int) := by omega
      clear ks d0 d1 d2
      cases full with
      | true =>
        have hno : freesTo sl (k + 1) = freesTo sl k := by simp [freesTo, isFree, hs]
        rw [← hno] at hJa
        clear hs hno
        gi_wp2
        refine ⟨fun _ h => (by cases h), ?_⟩
        gi_wp2
        go_roundw
        case rel => exact ⟨k + 1, by omega, by go_num, hJa, hKa⟩
        case measure => simp [intOf]; omega
      | false =>
        by_cases ha : age ≤ 1073741824
        · have hyes : isFree sl k = true := by simp [isFree, hs, ha]
          obtain ⟨post, hpost⟩ := freesTo_split sl k hyes N hlt
          have hnx : freesTo sl (k + 1) = freesTo sl k ++ [k] := by simp only [freesTo, if_pos hyes]
          obtain ⟨fn, tmps, assign, body, hy, hR⟩ := hY _ k _ hJa ⟨post, hpost⟩
          have Hnx := Lib.hid hnx
          have Hpost := Lib.hid hpost
          clear hs hnx hpost hyes
          gi_wp2
          refine hR.mono ?_
          rintro e W3 (⟨rfl, hJ3, hk3⟩ | ⟨rfl, hJx3⟩)
          · gi_wp2
            go_roundw
            case rel => exact ⟨k + 1, by omega, by go_num, by rw [Hnx.out]; exact hJ3, hKa.trans hk3⟩
            case measure => simp [intOf]; omega
          · gi_wp2
            refine bodyPost_ret (results_none rfl _ _ _) rfl ?_
            exact ⟨⟨_, rfl⟩, .inr ⟨_, ⟨post, by rw [Hpost.out]; simp⟩, hJx3⟩⟩
        · have hno : freesTo sl (k + 1) = freesTo sl k := by simp [freesTo, isFree, hs, ha]
          rw [← hno] at hJa
          clear hs hno
          gi_wp2
          refine ⟨fun _ h => (by cases h), ?_⟩
          gi_wp2
          go_roundw
          case rel => exact ⟨k + 1, by omega, by go_num, hJa, hKa⟩
          case measure => simp [intOf]; omega
    · obtain rfl : N = k := by omega
      gi_wp2
      go_end0
      exact ⟨⟨_, rfl⟩, .inl hJk⟩
end Go.Proofs.Ytafljpfephomoaa
