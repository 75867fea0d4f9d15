/- Snap: pools that are new (printed by wip/gen/Sl.py). -/
import Derived.Test.YtlcmjpligaiadaaSk
import Derived.Test.YtlcmjpligaiadaaE1
namespace Go.Proofs.Ytlcmjpligaiadaa
open Go.RowKit
/-- A pool of which no place is full. -/
def PoolZ (w : World) (p sb n sz : Nat) (ty ety : TypeId) : Prop :=
  Blk w p ty [.slice (some ⟨sb, 0, none⟩) n n, .int .i64 0] ∧ ∃ vs, Blk w sb ety vs ∧ ∀ k, k < n → vs[k * sz + 1]? = some (.bool false)
theorem made_at (cs : Array Value) (n sz k : Nat) (hs : cs.size = sz) (hsz : 1 < sz) (u : Value) (hu : cs[1]? = some u) (hk : k < n) : (madeCells cs (n * sz)).toList[k * sz + 1]? = some u := by
  have hlt : k * sz + 1 < n * sz := by
    have : (k + 1) * sz ≤ n * sz := Nat.mul_le_mul_right _ hk
    rw [Nat.add_mul] at this; omega
  have hm : (k * sz + 1) % sz = 1 := by rw [Nat.add_comm, Nat.add_mul_mod_self_right, Nat.mod_eq_of_lt hsz]
  have h1 : cs[1]! = u := by
    obtain ⟨h2, h3⟩ := Array.getElem?_eq_some_iff.1 hu
    rw [getElem!_pos cs 1 h2, h3]
  rw [Array.getElem?_toList]
  unfold madeCells
  rw [Array.getElem?_map, Array.getElem?_range]
  rw [if_pos hlt]
  simp only [Option.map_some, hs, hm, h1]
def zero178 : Value := .agg #[.int .i64 0, .bool false, .int .i64 0, .int .i64 0, .int .i64 0, .int .i64 0, .int .i64 0, .int .i64 0, .int .i64 0, .int .i64 0, .int .i64 0, .int .i64 0, .int .i64 0, .int .i64 0, .int .i64 0, .int .i64 0, .int .i64 0, .int .i64 0, .int .i64 0, .int .i64 0, .int .i64 0, .int .i64 0, .int .i64 0, .int .i64 0, .int .i64 0, .slice none 0 0, .int .i64 0, .int .i64 0, .int .i64 0, .bool false, .int .i64 0, .bool false, .bool false]
theorem info178s : (Try.prog.info? 178).map (fun i => (i.zero, i.size, i.bytes)) = some (some zero178, 33, 272) := by kernel_rfl
set_option maxRecDepth 100000 in
set_option maxHeartbeats 2000000 in
theorem new73_any (w : World) :
    Calls Try.prog 73 #[.int .i64 24] w fun e w' => ∃ p sb, e = .returned (.tuple #[.pointer (some ⟨p, 0, none⟩), .int .i64 0]) ∧ PoolZ w' p sb 24 33 149 178 ∧ Below w.heap.size w w' ∧ w.heap.size ≤ p ∧ w.heap.size ≤ sb := by
  obtain ⟨i0, hi, hz0, hz1, hz2⟩ := info_parts info178s
  go_enter Try.func73, Try.ntmps73
  go_wp2_with (at_make; refine wpList_make_full _ rfl _ _ 147 rfl w.heap.size 178 i0 zero178 33 Try.underlying147 hi hz0 hz1 .i64 .i64 _ _ 24 rfl rfl rfl rfl (by rw [hz2]; omega) (by unfold maxLen; omega) (Nat.le_refl _) ?_; intro w1 hown1 hg1)
  have hs := own_blk hown1
  have hB := ((Below.refl w.heap.size w).grown hg1 (Nat.le_refl _) (by simp))
  have hlt := hs.lt
  go_ret2
  refine ⟨w1.heap.size, w.heap.size, rfl, ⟨Blk.new w1 149 [_, _], _, hs.alloc _, fun k hk => made_at _ _ _ k rfl (by decide) _ rfl hk⟩, hB.alloc hB.size _, hB.size, Nat.le_refl _⟩
def zero182 : Value := .agg #[.int .i64 0, .bool false, .int .i64 0, .int .i64 0, .int .i64 0, .int .i64 0, .int .i64 0, .int .i64 0, .int .i64 0, .int .i64 0, .int .i64 0, .int .i64 0, .int .i64 0, .int .i64 0, .int .i64 0, .int .i64 0, .int .i64 0, .int .i64 0, .int .i64 0, .int .i64 0]
theorem info182s : (Try.prog.info? 182).map (fun i => (i.zero, i.size, i.bytes)) = some (some zero182, 20, 160) := by kernel_rfl
set_option maxRecDepth 100000 in
set_option maxHeartbeats 2000000 in
theorem new74_any (w : World) :
    Calls Try.prog 74 #[.int .i64 16] w fun e w' => ∃ p sb, e = .returned (.tuple #[.pointer (some ⟨p, 0, none⟩), .int .i64 0]) ∧ PoolZ w' p sb 16 20 152 182 ∧ Below w.heap.size w w' ∧ w.heap.size ≤ p ∧ w.heap.size ≤ sb := by
  obtain ⟨i0, hi, hz0, hz1, hz2⟩ := info_parts info182s
  go_enter Try.func74, Try.ntmps74
  go_wp2_with (at_make; refine wpList_make_full _ rfl _ _ 150 rfl w.heap.size 182 i0 zero182 20 Try.underlying150 hi hz0 hz1 .i64 .i64 _ _ 16 rfl rfl rfl rfl (by rw [hz2]; omega) (by unfold maxLen; omega) (Nat.le_refl _) ?_; intro w1 hown1 hg1)
  have hs := own_blk hown1
  have hB := ((Below.refl w.heap.size w).grown hg1 (Nat.le_refl _) (by simp))
  have hlt := hs.lt
  go_ret2
  refine ⟨w1.heap.size, w.heap.size, rfl, ⟨Blk.new w1 152 [_, _], _, hs.alloc _, fun k hk => made_at _ _ _ k rfl (by decide) _ rfl hk⟩, hB.alloc hB.size _, hB.size, Nat.le_refl _⟩
end Go.Proofs.Ytlcmjpligaiadaa
