/- Trees: handles sorted; who meets a box, of whatever tree. -/
import Derived.Test.YtadfmhjnmmmalaaP1
import Derived.Test.YtadfmhjnmmmalaaSt
import Derived.Sort.OwnSortedInts
namespace Go.Proofs.Ytadfmhjnmmmalaa
open Go.RowKit Go.Maps Go.Shelf
attribute [local go_sem] Oper.semAt_some
def sortI (zs : List Int) : List Int := zs.mergeSort fun x y => decide (x ≤ y)
theorem sortI_len (zs : List Int) : (sortI zs).length = zs.length := List.length_mergeSort zs
theorem sortI_perm (zs : List Int) : (sortI zs).Perm zs := List.mergeSort_perm zs _
theorem sortI_le (zs : List Int) : (sortI zs).Pairwise (fun a b => a ≤ b) := by
  have := List.pairwise_mergeSort (le := fun x y : Int => decide (x ≤ y)) (fun a b c h1 h2 => by simp at *; omega) (fun a b => by simp; omega) zs
  exact this.imp (fun h => by simpa using h)
/-- Sorted handles are those of a rising list. -/
theorem sortI_eq {zs ys : List Int} (hp : zs.Perm ys) (hy : ys.Pairwise (fun a b => a < b)) : sortI zs = ys := by
  refine List.Perm.eq_of_pairwise (le := fun a b : Int => a ≤ b) (fun a b _ _ h1 h2 => Int.le_antisymm h1 h2) (sortI_le zs) (hy.imp Int.le_of_lt) ((sortI_perm zs).trans hp)
theorem sort33_any (base : Nat) (v : Value) (zs : List Int) (w : World) (hown : w.ownsRow base 30 1 v zs.length (ints zs)) (hl : zs.length < 1000000) :
    Calls Try.prog 33 #[v] w fun e w' => e = .returned (.tuple #[]) ∧ w'.ownsRow base 30 1 v zs.length (ints (sortI zs)) ∧ w.grownBy w' v.ownBlock := by
  rcases hown.2 with ⟨rfl, h0⟩ | ⟨g, cap, cur, rfl, hg, hh, hn, hcap, hs, hx⟩
  · have hz : zs = [] := List.length_eq_zero_iff.1 h0
    subst hz
    refine (AnyM.slices_Sort_int_none lsort none 0 w).mono ?_
    rintro e w' ⟨rfl, rfl⟩
    refine ⟨rfl, ?_, rfl, rfl, rfl, Nat.le_refl _, fun _ _ _ => rfl⟩
    have : sortI [] = [] := List.length_eq_zero_iff.1 (sortI_len [])
    rw [this]
    exact hown
  · have hH := holds_of_blockI (ss := zs) hh (by simpa using hx)
    refine (AnyM.slices_Sort_int lsort g 0 cap zs w hH (Array.getElem?_eq_some_iff.1 hh).1 (by omega)).mono ?_
    rintro e w' ⟨rfl, n, os, rfl⟩
    exact ⟨rfl, ownsRow_sortedI (sortI_len zs) hg hh hn hcap hs, grownBy_sortedI _⟩
set_option maxRecDepth 100000 in
theorem meeting_none (n : Nat) (_hn1 : 1 ≤ n) (bt bq t : Nat) (_q : Bx) (vn vf : Value) (mb : Nat) (room : Int) (ns : List Nd) (fr : List Nat) (k : Nat) (D : DataW Unit) (w : World) (hR : Raw w t vn vf mb room ns fr (-1) k D) (hbt : Blk w bt 25 [.pointer (some ⟨t, 0, none⟩)]) :
    SeqP Fence.wide n Try.prog 49 #[.pointer (some ⟨bt, 0, none⟩), .pointer (some ⟨bq, 0, none⟩)] (fun h : Int => #[.int .i64 h]) pvI (KeepB [bt, bq, t]) ([] : List Int) w := by
  intro l J Jx W hW hJ hJx hY h0
  have hbtW := hbt.below hW hbt.lt
  have hRW := hR.below hW
  have cb := hbtW.cell 0
  have c3 := hRW.1.cell 3
  simp only [List.getElem?_cons_zero, List.getElem?_cons_succ] at cb c3
  refine callsIn_of_wp Try.func49 rfl trivial ?_ rfl
  simp only [Try.ntmps49, List.size_toArray, List.length_cons, List.length_nil, Nat.reduceAdd, Nat.reduceSub, Array.replicate_succ, Array.replicate_zero, List.push_toArray, List.append_toArray, List.nil_append, List.cons_append]
  gi_wp2
  refine wpIn_scope ?_
  gi_wp2
  rw [Exit.noGoto_ret]
  refine bodyPost_ret (results_none rfl _ _ _) rfl ?_
  exact ⟨⟨_, rfl⟩, .inl h0⟩
theorem St.two {ns : List Nd} {fr : List Nat} {root : Int} {o : Option T} (h : St ns fr root o) : (o = none ∧ root = -1) ∨ ∃ T0, o = some T0 ∧ St ns fr root (some T0) := by
  cases o with
  | none => exact .inl ⟨rfl, h.2⟩
  | some T0 => exact .inr ⟨T0, rfl, h⟩
theorem meeting_all (n : Nat) (hn1 : 1 ≤ n) (bt bq t : Nat) (q : Bx) (vn vf : Value) (mb : Nat) (room : Int) (ns : List Nd) (fr : List Nat) (root : Int) (k : Nat) (D : DataW Unit) (o : Option T) (w : World) (hR : Raw w t vn vf mb room ns fr root k D) (hS : St ns fr root o) (hns : ns.length ≤ 2048) (hbt : Blk w bt 25 [.pointer (some ⟨t, 0, none⟩)]) (hbq : Blk w bq 34 q.cells) :
    ∃ (xs : List Int) (bs : List Nat), xs.Perm (((oleaves o).filter (fun x => meetB x.2.2 q)).map (·.1)) ∧ (∀ b ∈ bs, b = bt ∨ b = bq ∨ b = t ∨ vn.ownBlock = some b) ∧
      SeqP Fence.wide n Try.prog 49 #[.pointer (some ⟨bt, 0, none⟩), .pointer (some ⟨bq, 0, none⟩)] (fun h : Int => #[.int .i64 h]) pvI (KeepB bs) xs w := by
  rcases hS.two with ⟨rfl, rfl⟩ | ⟨T0, rfl, hS0⟩
  · exact ⟨[], [bt, bq, t], List.Perm.refl _, fun b hb => by simp only [List.mem_cons, List.not_mem_nil, or_false] at hb; rcases hb with rfl | rfl | rfl; exact .inl rfl; exact .inr (.inl rfl); exact .inr (.inr (.inl rfl)), meeting_none n hn1 bt bq t q vn vf mb room ns fr k D w hR hbt⟩
  · have hne : ns.length ≠ 0 := by
      have := hS0.1.lt T0.idx T0.idx_mem
      omega
    obtain ⟨g, cap, rfl⟩ := own_addr hR.2.1 hne
    refine ⟨trav T0 q, [bt, bq, t, g], trav_perm T0 q hS0.2.2.1, fun b hb => ?_, meeting_seq n hn1 bt bq t g _ cap q vf mb room ns fr root k D T0 w hR hS0 hns hbt hbq⟩
    simp only [List.mem_cons, List.not_mem_nil, or_false] at hb
    rcases hb with rfl | rfl | rfl | rfl
    · exact .inl rfl
    · exact .inr (.inl rfl)
    · exact .inr (.inr (.inl rfl))
    · exact .inr (.inr (.inr rfl))
end Go.Proofs.Ytadfmhjnmmmalaa
