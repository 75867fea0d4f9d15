/- Trees: pick, box, clips, comparing lists. -/
import Derived.Test.YtadfmhjnmmmalaaA1
import Derived.StillTailTactics
namespace Go.Proofs.Ytadfmhjnmmmalaa
open Go.RowKit
theorem pick13_any (c n : Int) (w : World) (hc : -9223372036854775808 ≤ c) (hc2 : c ≤ 9223372036854775807) (hn : 1 ≤ n) (hn2 : n ≤ 16777216) :
    Calls Try.prog 13 #[.int .i64 c, .int .i64 n] w fun e w' => e = .returned (.int .i64 (pickN c n)) ∧ w = w' := by
  by_cases h : c < 0
  · go_enter Try.func13, Try.ntmps13
    go_wp2
    go_ret
    exact ⟨ret_int (by simp [pickN, h]), rfl⟩
  · go_enter Try.func13, Try.ntmps13
    go_wp2
    go_ret
    exact ⟨ret_int (by have : ¬ c < 0 := by omega
                       simp [pickN, this, Int.tmod_eq_emod_of_nonneg h]), rfl⟩
theorem clip37_any (ao : Option Addr) (n cap : Nat) (w : World) (h : n ≤ cap) (_h2 : cap ≤ 9223372036854775807) :
    Calls Try.prog 37 #[.slice ao n cap] w fun e w' => e = .returned (.slice ao n n) ∧ w = w' := by
  have h3 : (n : Int) ≤ (cap : Int) := by omega
  go_enter Try.func37, Try.ntmps37
  go_wp2
  go_ret
  exact ⟨rfl, rfl⟩
theorem clip34_any (ao : Option Addr) (n cap : Nat) (w : World) (h : n ≤ cap) (_h2 : cap ≤ 9223372036854775807) :
    Calls Try.prog 34 #[.slice ao n cap] w fun e w' => e = .returned (.slice ao n n) ∧ w = w' := by
  have h3 : (n : Int) ≤ (cap : Int) := by omega
  go_enter Try.func34, Try.ntmps34
  go_wp2
  go_ret
  exact ⟨rfl, rfl⟩
set_option maxRecDepth 100000 in
set_option maxHeartbeats 1000000 in
theorem handles17_any (av bv : Value) (n : Nat) (l : List Int) (hl : l.length = n) (w : World) (ha : Rd w av n 1 (ints l)) (hb : Rd w bv n 1 (ints l)) :
    Calls Try.prog 17 #[av, bv] w fun e w' => e = .returned (.bool true) ∧ ∃ j, w' = w.drewN j := by
  obtain ⟨aa, ac, rfl, a1, a2⟩ := ha.shape
  obtain ⟨ba, bc, rfl, b1, b2⟩ := hb.shape
  have Hl := Lib.hid hl
  clear hl
  have hnn : ((n : Int) != (n : Int)) = false := by simp
  go_enter Try.func17, Try.ntmps17
  go_wp2
  go_loopw [5] (fun i wr => ∃ k : Nat, k ≤ n ∧ i = .int .i64 k ∧ ∃ d, wr = w.drewN d) (fun i _ => n - (intOf i).toNat)
  case atStart => exact ⟨0, Nat.zero_le _, rfl, 0, rfl⟩
  case round =>
    obtain ⟨k, hk, rfl, d, rfl⟩ := hrel
    by_cases hlt : k < n
    · have hkI : (k : Int) < (n : Int) := by omega
      obtain ⟨ab, ao, rfl⟩ := ha.addr (by omega)
      obtain ⟨bb, bo, rfl⟩ := hb.addr (by omega)
      have f0 := ha.int Hl.out hlt
      have f1 := hb.int Hl.out hlt
      generalize l[k]?.getD 0 = x at f0 f1
      have hxx : ((x : Int) != x) = false := by simp
      go_wp2
      go_quiet (fail)
      go_wp2
      go_roundw
      case rel => exact ⟨k + 1, by omega, by go_num, _, rfl⟩
      case measure => simp [intOf]; omega
    · obtain rfl : n = k := by omega
      go_wp2
      go_ret
      exact ⟨rfl, d, rfl⟩
/-- Pairs. -/
abbrev Pr := Int × Int
def pairCells (l : List Pr) : List Value := l.flatMap fun p => [.int .i64 p.1, .int .i64 p.2]
theorem pairs_len : ∀ l : List Pr, (pairCells l).length = l.length * 2
  | [] => rfl
  | p :: l => by
    have := pairs_len l
    unfold pairCells at *
    simp only [List.flatMap_cons, List.length_append, List.length_cons, List.length_nil]
    omega
theorem pairs_get : ∀ {l : List Pr} {k : Nat} {p : Pr}, l[k]? = some p → (pairCells l)[k * 2]? = some (.int .i64 p.1) ∧ (pairCells l)[k * 2 + 1]? = some (.int .i64 p.2)
  | q :: l, 0, p, h => by
    simp only [List.getElem?_cons_zero, Option.some.injEq] at h
    subst h
    exact ⟨rfl, rfl⟩
  | q :: l, k + 1, p, h => by
    simp only [List.getElem?_cons_succ] at h
    obtain ⟨h1, h2⟩ := pairs_get h
    rw [show (k + 1) * 2 = k * 2 + 1 + 1 by omega]
    exact ⟨h1, h2⟩
theorem pairs_append (a b : List Pr) : pairCells (a ++ b) = pairCells a ++ pairCells b := by simp [pairCells]
theorem Rd.pair {w : World} {b off n cap : Nat} {l : List Pr} (h : Rd w (.slice (some ⟨b, off, none⟩) n cap) n 2 (pairCells l)) {i : Nat} (hi : i < n) {p : Pr} (hp : l[i]? = some p) :
    w.cell? ⟨b, off + i * 2, none⟩ = some (.int .i64 p.1) ∧ w.cell? ⟨b, off + i * 2 + 1, none⟩ = some (.int .i64 p.2) := by
  obtain ⟨g0, g1⟩ := pairs_get hp
  refine ⟨(h.at (i := i * 2) (by omega)).trans g0, ?_⟩
  rw [Nat.add_assoc]
  exact (h.at (i := i * 2 + 1) (by omega)).trans g1
theorem guard51 : Try.prog.eqGuardType Try.prog.depth 51 = false := by kernel_rfl
theorem nePair (a b c d : Int) (w : World) : (binOp .neq 51 (.agg #[.int .i64 a, .int .i64 b]) (.agg #[.int .i64 c, .int .i64 d])).run Try.prog w = .ok (.bool (!decide ((a, b) = (c, d)))) w := by
  have u30 := Try.underlying30
  have a30 := Try.isAgg30
  have z30 := Try.sizeOf30
  have hS : Try.prog.underlying 51 = some (.struct (Try.prog.fieldsOf 51)) := by kernel_rfl
  have hp : Try.prog.stoodInHeld 51 = false := by kernel_rfl
  rw [run_neq_struct, show (10000 : Nat) = 9999 + 1 from rfl, run_equalIn_agg w 9999 51 _ _ hS hp]
  simp only [Program.fieldsOf, Try.underlying51]
  go_simp
  by_cases h1 : a = c <;> by_cases h2 : b = d <;> simp [h1, h2]
set_option maxRecDepth 100000 in
set_option maxHeartbeats 1000000 in
theorem pairs15_any (av bv : Value) (n : Nat) (l : List Pr) (hl : l.length = n) (w : World) (ha : Rd w av n 2 (pairCells l)) (hb : Rd w bv n 2 (pairCells l)) :
    Calls Try.prog 15 #[av, bv] w fun e w' => e = .returned (.bool true) ∧ ∃ j, w' = w.drewN j := by
  obtain ⟨aa, ac, rfl, a1, a2⟩ := ha.shape
  obtain ⟨ba, bc, rfl, b1, b2⟩ := hb.shape
  have Hl := Lib.hid hl
  clear hl
  have hnn : ((n : Int) != (n : Int)) = false := by simp
  go_enter Try.func15, Try.ntmps15
  go_wp2
  go_loopw [5] (fun i wr => ∃ k : Nat, k ≤ n ∧ i = .int .i64 k ∧ ∃ d, wr = w.drewN d) (fun i _ => n - (intOf i).toNat)
  case atStart => exact ⟨0, Nat.zero_le _, rfl, 0, rfl⟩
  case round =>
    obtain ⟨k, hk, rfl, d, rfl⟩ := hrel
    by_cases hlt : k < n
    · obtain ⟨p, hp⟩ : ∃ p, l[k]? = some p := ⟨_, List.getElem?_eq_getElem (by rw [Hl.out]; exact hlt)⟩
      obtain ⟨ab, ao, rfl⟩ := ha.addr (by omega)
      obtain ⟨bb, bo, rfl⟩ := hb.addr (by omega)
      obtain ⟨f0, f1⟩ := ha.pair hlt hp
      obtain ⟨g0, g1⟩ := hb.pair hlt hp
      obtain ⟨p1, p2⟩ := p
      simp only at f0 f1 g0 g1
      have hkI : (k : Int) < (n : Int) := by omega
      have hne : ∀ w, (binOp .neq 51 (.agg #[.int .i64 p1, .int .i64 p2]) (.agg #[.int .i64 p1, .int .i64 p2])).run Try.prog w = .ok (.bool false) w := fun w => by
        rw [nePair]; simp
      have hgd := guard51
      clear hp
      go_wp2
      go_quiet (fail)
      go_wp2
      go_roundw
      case rel => exact ⟨k + 1, by omega, by go_num, _, rfl⟩
      case measure => simp [intOf]; omega
    · obtain rfl : n = k := by omega
      go_wp2
      go_ret
      exact ⟨rfl, d, rfl⟩
/-- A raw box made right. -/
def boxN (b : Bx) : Bx := ⟨pickN b.x0 16777216 - 8388608, pickN b.y0 16777216 - 8388608, pickN b.z0 16777216 - 8388608, pickN b.x0 16777216 - 8388608 + pickN b.x1 65536, pickN b.y0 16777216 - 8388608 + pickN b.y1 65536, pickN b.z0 16777216 - 8388608 + pickN b.z1 65536⟩
def InB (b : Bx) : Prop := In64 b.x0 ∧ In64 b.y0 ∧ In64 b.z0 ∧ In64 b.x1 ∧ In64 b.y1 ∧ In64 b.z1
set_option maxRecDepth 100000 in
set_option maxHeartbeats 1000000 in
theorem box11_any (b : Bx) (h : InB b) (w : World) : Calls Try.prog 11 #[boxV b] w fun e w' => e = .returned (boxV (boxN b)) ∧ Below w.heap.size w w' := by
  obtain ⟨⟨h1, g1⟩, ⟨h2, g2⟩, ⟨h3, g3⟩, ⟨h4, g4⟩, ⟨h5, g5⟩, h6, g6⟩ := h
  have r1 := pickN_range (c := b.x0) (n := 16777216) (by omega)
  have r2 := pickN_range (c := b.y0) (n := 16777216) (by omega)
  have r3 := pickN_range (c := b.z0) (n := 16777216) (by omega)
  have r4 := pickN_range (c := b.x1) (n := 65536) (by omega)
  have r5 := pickN_range (c := b.y1) (n := 65536) (by omega)
  have r6 := pickN_range (c := b.z1) (n := 65536) (by omega)
  unfold boxN
  have wx := IntWalk.i64_in (pickN b.x0 16777216 - 8388608) (by omega)
  have wy := IntWalk.i64_in (pickN b.y0 16777216 - 8388608) (by omega)
  have wz := IntWalk.i64_in (pickN b.z0 16777216 - 8388608) (by omega)
  have vx := IntWalk.i64_in (pickN b.x0 16777216 - 8388608 + pickN b.x1 65536) (by omega)
  have vy := IntWalk.i64_in (pickN b.y0 16777216 - 8388608 + pickN b.y1 65536) (by omega)
  have vz := IntWalk.i64_in (pickN b.z0 16777216 - 8388608 + pickN b.z1 65536) (by omega)
  go_enter Try.func11, Try.ntmps11
  go_upto_region 1 with (fail)
  go_cut [3] (fun p wx => p = .pointer (some ⟨w.heap.size + 1 + 1, 0, none⟩) ∧ Blk wx w.heap.size 34 b.cells ∧ Blk wx (w.heap.size + 1) 34 [.int .i64 0, .int .i64 0, .int .i64 0, .int .i64 0, .int .i64 0, .int .i64 0] ∧ Blk wx (w.heap.size + 1 + 1) 32 [.int .i64 (pickN b.x0 16777216 - 8388608), .int .i64 (pickN b.y0 16777216 - 8388608), .int .i64 (pickN b.z0 16777216 - 8388608)] ∧ Below w.heap.size w wx)
  case first =>
    have bb := ((Blk.newAt (w := w) (b := w.heap.size) rfl 34 b.cells).alloc (.cells #[.int .i64 0, .int .i64 0, .int .i64 0, .int .i64 0, .int .i64 0, .int .i64 0] 34)).alloc (.cells #[.int .i64 (pickN b.x0 16777216 - 8388608), .int .i64 (pickN b.y0 16777216 - 8388608), .int .i64 (pickN b.z0 16777216 - 8388608)] 32)
    have bz := (Blk.newAt (w := w.alloc (.cells b.cells.toArray 34)) (b := w.heap.size + 1) (by simp) 34 [.int .i64 0, .int .i64 0, .int .i64 0, .int .i64 0, .int .i64 0, .int .i64 0]).alloc (.cells #[.int .i64 (pickN b.x0 16777216 - 8388608), .int .i64 (pickN b.y0 16777216 - 8388608), .int .i64 (pickN b.z0 16777216 - 8388608)] 32)
    have bp := Blk.newAt (w := (w.alloc (.cells b.cells.toArray 34)).alloc (.cells #[.int .i64 0, .int .i64 0, .int .i64 0, .int .i64 0, .int .i64 0, .int .i64 0] 34)) (b := w.heap.size + 1 + 1) (by simp) 32 [.int .i64 (pickN b.x0 16777216 - 8388608), .int .i64 (pickN b.y0 16777216 - 8388608), .int .i64 (pickN b.z0 16777216 - 8388608)]
    have BB : Below w.heap.size w (((w.alloc (.cells b.cells.toArray 34)).alloc (.cells #[.int .i64 0, .int .i64 0, .int .i64 0, .int .i64 0, .int .i64 0, .int .i64 0] 34)).alloc (.cells #[.int .i64 (pickN b.x0 16777216 - 8388608), .int .i64 (pickN b.y0 16777216 - 8388608), .int .i64 (pickN b.z0 16777216 - 8388608)] 32)) := (((Below.refl _ w).alloc (Nat.le_refl _) _).alloc (by simp) _).alloc (by simp; omega) _
    have HF := Lib.hid (And.intro bb (And.intro bz (And.intro bp BB)))
    clear bb bz bp BB
    go_region_held3 (fun wx => wx.cell? ⟨w.heap.size, 0, none⟩ = some (.int .i64 b.x0) ∧ wx.cell? ⟨w.heap.size, 1, none⟩ = some (.int .i64 b.y0) ∧ wx.cell? ⟨w.heap.size, 2, none⟩ = some (.int .i64 b.z0)) (go_keep)
      (first | (go_at_call 13; refine (pick13_any _ _ _ (by assumption) (by assumption) (by omega) (by omega)).mono ?_; rintro e w' ⟨rfl, rfl⟩))
    all_goals (go_wp2_with fail; go_meet; exact ⟨rfl, HF.out.1.drew, HF.out.2.1.drew, HF.out.2.2.1.drew, HF.out.2.2.2.drew⟩)
  case rest =>
    obtain ⟨rfl, hb, hz, hp, hB⟩ := hcut
    have q3 : _ = some (Value.int .i64 b.x1) := hb.cell 3
    have q4 : _ = some (Value.int .i64 b.y1) := hb.cell 4
    have q5 : _ = some (Value.int .i64 b.z1) := hb.cell 5
    have p0 : _ = some (Value.int .i64 (pickN b.x0 16777216 - 8388608)) := hp.cell 0
    have p1 : _ = some (Value.int .i64 (pickN b.y0 16777216 - 8388608)) := hp.cell 1
    have p2 : _ = some (Value.int .i64 (pickN b.z0 16777216 - 8388608)) := hp.cell 2
    have z0 : _ = some (Value.int .i64 0) := hz.cell 0
    have z1 : _ = some (Value.int .i64 0) := hz.cell 1
    have z2 : _ = some (Value.int .i64 0) := hz.cell 2
    have z3 : _ = some (Value.int .i64 0) := hz.cell 3
    have z4 : _ = some (Value.int .i64 0) := hz.cell 4
    have z5 : _ = some (Value.int .i64 0) := hz.cell 5
    have f0 := hz.frozen 0
    have f1 := hz.frozen 1
    have f2 := hz.frozen 2
    have f3 := hz.frozen 3
    have f4 := hz.frozen 4
    have f5 := hz.frozen 5
    have hz2 : ∀ c1 c2 c3 c4 c5 c6 : Value, Blk ((((((wc.setCell ⟨w.heap.size + 1, 0, none⟩ c1).setCell ⟨w.heap.size + 1, 1, none⟩ c2).setCell ⟨w.heap.size + 1, 2, none⟩ c3).setCell ⟨w.heap.size + 1, 3, none⟩ c4).setCell ⟨w.heap.size + 1, 4, none⟩ c5).setCell ⟨w.heap.size + 1, 5, none⟩ c6) (w.heap.size + 1) 34 [c1, c2, c3, c4, c5, c6] := fun c1 c2 c3 c4 c5 c6 => (((((hz.set 0 c1).set 1 c2).set 2 c3).set 3 c4).set 4 c5).set 5 c6
    have Hz2 := Lib.hid hz2
    clear hz2 hz
    go_wp2_with fail
    have K4 : Calls Try.prog 13 #[.int .i64 b.x1, .int .i64 65536] wc.drew fun e w'' => e = .returned (.int .i64 (pickN b.x1 65536)) ∧ w'' = wc.drew := (pick13_any _ _ _ h4 g4 (by omega) (by omega)).mono fun e w' h => ⟨h.1, h.2.symm⟩
    have K5 : Calls Try.prog 13 #[.int .i64 b.y1, .int .i64 65536] wc.drew fun e w'' => e = .returned (.int .i64 (pickN b.y1 65536)) ∧ w'' = wc.drew := (pick13_any _ _ _ h5 g5 (by omega) (by omega)).mono fun e w' h => ⟨h.1, h.2.symm⟩
    have K6 : Calls Try.prog 13 #[.int .i64 b.z1, .int .i64 65536] wc.drew fun e w'' => e = .returned (.int .i64 (pickN b.z1 65536)) ∧ w'' = wc.drew := (pick13_any _ _ _ h6 g6 (by omega) (by omega)).mono fun e w' h => ⟨h.1, h.2.symm⟩
    refine wp_region_still_tail 24 (by kernel_rfl) (by kernel_rfl) ?_
    simp only [List.take_succ_cons, List.take_zero, List.drop_succ_cons, List.drop_zero]
    change wpStill _ _ wc.drew _ _ _
    repeat still_step
    still_call K4
    repeat still_step
    still_call K5
    repeat still_step
    still_call K6
    repeat still_step
    refine wpStill_nil ?_
    change wpList _ _ _ _ _ wc.drew
    clear K4 K5 K6
    go_wp2
    have HB6 := Hz2.out (.int .i64 (pickN b.x0 16777216 - 8388608)) (.int .i64 (pickN b.y0 16777216 - 8388608)) (.int .i64 (pickN b.z0 16777216 - 8388608)) (.int .i64 (pickN b.x0 16777216 - 8388608 + pickN b.x1 65536)) (.int .i64 (pickN b.y0 16777216 - 8388608 + pickN b.y1 65536)) (.int .i64 (pickN b.z0 16777216 - 8388608 + pickN b.z1 65536))
    have g0 := HB6.cell 0
    have g1' := HB6.cell 1
    have g2' := HB6.cell 2
    have g3' := HB6.cell 3
    have g4' := HB6.cell 4
    have g5' := HB6.cell 5
    simp only [List.getElem?_cons_zero, List.getElem?_cons_succ] at g0 g1' g2' g3' g4' g5'
    have hb2 : w.heap.size ≤ (⟨w.heap.size + 1, 0, none⟩ : Addr).block := by simp
    have BE := ((((((hB.setCell (p := ⟨w.heap.size + 1, 0, none⟩) hb2 (.int .i64 (pickN b.x0 16777216 - 8388608))).setCell (p := ⟨w.heap.size + 1, 1, none⟩) hb2 (.int .i64 (pickN b.y0 16777216 - 8388608))).setCell (p := ⟨w.heap.size + 1, 2, none⟩) hb2 (.int .i64 (pickN b.z0 16777216 - 8388608))).setCell (p := ⟨w.heap.size + 1, 3, none⟩) hb2 (.int .i64 (pickN b.x0 16777216 - 8388608 + pickN b.x1 65536))).setCell (p := ⟨w.heap.size + 1, 4, none⟩) hb2 (.int .i64 (pickN b.y0 16777216 - 8388608 + pickN b.y1 65536))).setCell (p := ⟨w.heap.size + 1, 5, none⟩) hb2 (.int .i64 (pickN b.z0 16777216 - 8388608 + pickN b.z1 65536))).drew
    clear HB6
    generalize ((((((wc.setCell _ _).setCell _ _).setCell _ _).setCell _ _).setCell _ _).setCell _ _) = wE at *
    exact bodyPost_ret (v := boxV ⟨pickN b.x0 16777216 - 8388608, pickN b.y0 16777216 - 8388608, pickN b.z0 16777216 - 8388608, pickN b.x0 16777216 - 8388608 + pickN b.x1 65536, pickN b.y0 16777216 - 8388608 + pickN b.y1 65536, pickN b.z0 16777216 - 8388608 + pickN b.z1 65536⟩) (by simp [results, Try.f11, go_sem, g0, g1', g2', g3', g4', g5']) rfl ⟨rfl, BE⟩
end Go.Proofs.Ytadfmhjnmmmalaa
