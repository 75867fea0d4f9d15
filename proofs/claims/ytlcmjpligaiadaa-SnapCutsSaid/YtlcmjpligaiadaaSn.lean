/- Snap: iterators over empty pools (printed by wip/gen/Sn.py). -/
import Derived.Test.YtlcmjpligaiadaaSm
import Derived.Test.YtlcmjpligaiadaaRg2
import Derived.Stop.RegionWithIn
namespace Go.Proofs.Ytlcmjpligaiadaa
open Go.RowKit Go.Shelf
attribute [local go_sem] Oper.semAt_some
theorem PoolZ.below {w w' : World} {p sb n sz : Nat} {ty ety : TypeId} (h : PoolZ w p sb n sz ty ety) (hB : Below w.heap.size w w') : PoolZ w' p sb n sz ty ety := h.new hB
set_option maxRecDepth 100000 in
set_option maxHeartbeats 2000000 in
theorem seq90_none {α : Type} (encs : α → Array Value) (n : Nat) (bb p sb : Nat) (w : World) (hp : PoolZ w p sb 24 33 149 178) (hbox : Blk w bb 116 [.pointer (some ⟨p, 0, none⟩)]) :
    SeqL Fence.wide n Try.prog 90 #[.pointer (some ⟨bb, 0, none⟩)] encs (KeepB [p, sb, bb]) ([] : List α) w := by
  intro l J Jx W hW hJ hJx hY h0
  have hbW := hbox.below hW hbox.lt
  obtain ⟨hh, vs, hs, hz⟩ := hp.new hW
  have c0 := hh.cell 0
  have cb := hbW.cell 0
  simp only [List.getElem?_cons_zero] at c0 cb
  have hc : ∀ k, k < 24 → W.cell? ⟨sb, k * 33 + 1, none⟩ = some (.bool false) := fun k hk => (hs.cell _).trans (hz k hk)
  clear hY hJ hJx hh hs hz hbox hbW hp
  refine callsIn_of_wp Try.func90 rfl trivial ?_ rfl
  simp only [Try.ntmps90, List.size_toArray, List.length_cons, List.length_nil, Nat.reduceAdd, Nat.reduceSub, Array.replicate_succ, Array.replicate_zero, List.push_toArray, List.append_toArray, List.nil_append, List.cons_append]
  gi_wp2
  refine wpIn_scope ?_
  gi_wp2
  refine wpIn_label ?_
  gi_wp2
  gi_loopw [3, 9, 12] (fun _ i _ wr => ∃ k : Nat, k ≤ 24 ∧ i = .int .i64 k ∧ wr = W) (fun _ i _ _ => 24 - (intOf i).toNat)
  case atStart => exact ⟨0, Nat.zero_le _, rfl, rfl⟩
  case round =>
    obtain ⟨k, hk, rfl, rfl⟩ := hrel
    by_cases hlt : k < 24
    · have hkn : (k : Int) < 24 := by omega
      have d1 := hc k hlt
      gi_wp2
      go_roundw
      case rel => exact ⟨k + 1, by omega, by go_num, trivial⟩
      case measure => simp [intOf]; omega
    · obtain rfl : k = 24 := by omega
      gi_wp2
      rw [Exit.noGoto_normal]
      go_end0
      refine ⟨?_, .inl h0⟩
      first | exact ⟨_, rfl⟩ | simp
set_option maxRecDepth 100000 in
set_option maxHeartbeats 2000000 in
theorem seq92_none {α : Type} (encs : α → Array Value) (n : Nat) (bb p sb : Nat) (w : World) (hp : PoolZ w p sb 16 20 152 182) (hbox : Blk w bb 117 [.pointer (some ⟨p, 0, none⟩)]) :
    SeqL Fence.wide n Try.prog 92 #[.pointer (some ⟨bb, 0, none⟩)] encs (KeepB [p, sb, bb]) ([] : List α) w := by
  intro l J Jx W hW hJ hJx hY h0
  have hbW := hbox.below hW hbox.lt
  obtain ⟨hh, vs, hs, hz⟩ := hp.new hW
  have c0 := hh.cell 0
  have cb := hbW.cell 0
  simp only [List.getElem?_cons_zero] at c0 cb
  have hc : ∀ k, k < 16 → W.cell? ⟨sb, k * 20 + 1, none⟩ = some (.bool false) := fun k hk => (hs.cell _).trans (hz k hk)
  clear hY hJ hJx hh hs hz hbox hbW hp
  refine callsIn_of_wp Try.func92 rfl trivial ?_ rfl
  simp only [Try.ntmps92, List.size_toArray, List.length_cons, List.length_nil, Nat.reduceAdd, Nat.reduceSub, Array.replicate_succ, Array.replicate_zero, List.push_toArray, List.append_toArray, List.nil_append, List.cons_append]
  gi_wp2
  refine wpIn_scope ?_
  gi_wp2
  refine wpIn_label ?_
  gi_wp2
  gi_loopw [3, 9, 12] (fun _ i _ wr => ∃ k : Nat, k ≤ 16 ∧ i = .int .i64 k ∧ wr = W) (fun _ i _ _ => 16 - (intOf i).toNat)
  case atStart => exact ⟨0, Nat.zero_le _, rfl, rfl⟩
  case round =>
    obtain ⟨k, hk, rfl, rfl⟩ := hrel
    by_cases hlt : k < 16
    · have hkn : (k : Int) < 16 := by omega
      have d1 := hc k hlt
      gi_wp2
      go_roundw
      case rel => exact ⟨k + 1, by omega, by go_num, trivial⟩
      case measure => simp [intOf]; omega
    · obtain rfl : k = 16 := by omega
      gi_wp2
      rw [Exit.noGoto_normal]
      go_end0
      refine ⟨?_, .inl h0⟩
      first | exact ⟨_, rfl⟩ | simp
end Go.Proofs.Ytlcmjpligaiadaa
