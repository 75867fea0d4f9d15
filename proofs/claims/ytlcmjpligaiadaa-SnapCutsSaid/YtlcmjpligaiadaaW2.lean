/- slices.BinarySearchFunc over pairs; where a pair is in a set. -/
import Derived.Test.YtlcmjpligaiadaaW1
import Derived.LoopTactic
import Derived.Laws.StructEq
namespace Go.Proofs.Ytlcmjpligaiadaa
open Go.RowKit
theorem Rd.pair {w : World} {b off n cap : Nat} {l : List Pr} (h : Rd w (.slice (some ⟨b, off, none⟩) n cap) n 2 (pairCells l)) (_hl : l.length = n) {i : Nat} (hi : i < n) {p : Pr} (hp : l[i]? = some p) :
    w.cell? ⟨b, off + i * 2, none⟩ = some (.int .i64 p.1) ∧ w.cell? ⟨b, off + i * 2 + 1, none⟩ = some (.int .i64 p.2) := by
  obtain ⟨g0, g1⟩ := pairs_get hp
  refine ⟨(h.at (i := i * 2) (by omega)).trans g0, ?_⟩
  rw [Nat.add_assoc]
  exact (h.at (i := i * 2 + 1) (by omega)).trans g1
set_option maxRecDepth 100000 in
set_option maxHeartbeats 4000000 in
theorem bsearch_any (sv : Value) (n : Nat) (l : List Pr) (p : Pr) (hl : l.length = n) (hn : n ≤ 4096) (hr : Rising l) (w : World) (hrd : Rd w sv n 2 (pairCells l)) :
    Calls Try.prog 76 #[sv, .agg #[.int .i64 p.1, .int .i64 p.2], .func (.func 77) #[] #[]] w fun e w' => ∃ b, e = .returned (.tuple #[.int .i64 (idxP l p), .bool b]) ∧ Below w.heap.size w w' := by
  obtain ⟨sa, sc, rfl, s1, s2⟩ := hrd.shape
  obtain ⟨p1, p2⟩ := p
  have hile := idxP_le l (p1, p2)
  rw [hl] at hile
  have Hl := Lib.hid hl
  have Hr := Lib.hid hr
  clear hl hr
  go_enter Try.func76, Try.ntmps76
  go_wp2
  obtain ⟨W0, hW0⟩ : ∃ W0, w.alloc (.cells #[.int .i64 p1, .int .i64 p2] 42) = W0 := ⟨_, rfl⟩
  have x0 : Blk W0 w.heap.size 42 [.int .i64 p1, .int .i64 p2] := by rw [← hW0]; exact Blk.new w 42 [_, _]
  have B0 : Below w.heap.size w W0 := by rw [← hW0]; exact (Below.refl _ w).alloc (Nat.le_refl _) _
  rw [hW0]
  clear hW0
  go_loopw [9, 10, 11] (fun i j _ wr => ∃ a b : Nat, a ≤ b ∧ b ≤ n ∧ i = .int .i64 a ∧ j = .int .i64 b ∧ a ≤ idxP l (p1, p2) ∧ idxP l (p1, p2) ≤ b ∧ Below W0.heap.size W0 wr) (fun i j _ _ => (intOf j).toNat - (intOf i).toNat)
  case atStart => exact ⟨0, n, Nat.zero_le _, Nat.le_refl _, rfl, rfl, Nat.zero_le _, hile, Below.refl _ _⟩
  case round =>
    obtain ⟨a, b, hab, hbn, rfl, rfl, hia, hib, hB⟩ := hrel
    have x0r := x0.below hB x0.lt
    have hrr := (hrd.new B0).new ((hB.mono (Nat.le_refl _)))
    have e0 := x0r.cell 0
    have e1 := x0r.cell 1
    simp only [List.getElem?_cons_zero, List.getElem?_cons_succ] at e0 e1
    by_cases hlt : a < b
    · obtain ⟨h, hh⟩ : ∃ h : Nat, h = (a + b) / 2 := ⟨_, rfl⟩
      have hh1 : a ≤ h := by omega
      have hh2 : h < b := by omega
      obtain ⟨q, hq⟩ : ∃ q, l[h]? = some q := ⟨_, List.getElem?_eq_getElem (by rw [Hl.out]; omega)⟩
      obtain ⟨gb, go, rfl⟩ := hrd.addr (by omega)
      obtain ⟨f0, f1⟩ := hrr.pair Hl.out (i := h) (by omega) hq
      go_wp2
      rw [show ((a : Int) + (b : Int)) / 2 = (h : Int) by omega]
      have hcm := cmpP_lt q (p1, p2)
      have hhn : (h : Int) < (n : Int) := by omega
      obtain ⟨q1, q2⟩ := q
      simp only at f0 f1
      have hbd := cmpP_bd (q1, q2) (p1, p2)
      have hcall := fun w => find1_any q1 q2 p1 p2 w
      unfold CmpPost at hcall
      obtain ⟨z, hz⟩ : ∃ z, z = cmpP (q1, q2) (p1, p2) := ⟨_, rfl⟩
      rw [← hz] at hcm hcall hbd
      have Hcall := Lib.hid hcall
      have hup : z < 0 → h + 1 ≤ idxP l (p1, p2) := fun hz0 => by
        rcases Nat.lt_or_ge h (idxP l (p1, p2)) with h1 | h1
        · exact h1
        · exact (idxP_above Hr.out h1 hq (hcm.1 hz0)).elim
      have hdn : ¬ z < 0 → idxP l (p1, p2) ≤ h := fun hz0 => by
        rcases Nat.lt_or_ge h (idxP l (p1, p2)) with h1 | h1
        · exact (hz0 (hcm.2 (idxP_below h1 hq))).elim
        · exact h1
      have Hup := Lib.hid hup
      have Hdn := Lib.hid hdn
      have hbb := x0r.lt
      have hgb := Rd.block_lt hrr (by omega)
      have k0 := hrr
      clear hz hcm hcall hup hdn hq
      clear hh
      by_cases hz0 : z < 0
      · have hi2 := Hup.out hz0
        go_region_held3 (fun wx => wx.cell? ⟨gb, go + h * 2, none⟩ = some (.int .i64 q1) ∧ wx.cell? ⟨gb, go + h * 2 + 1, none⟩ = some (.int .i64 q2) ∧ wx.cell? ⟨w.heap.size, 0, none⟩ = some (.int .i64 p1) ∧ wx.cell? ⟨w.heap.size, 1, none⟩ = some (.int .i64 p2))
          (first | go_keep | exact ⟨(B5.cell (p := ⟨gb, _, none⟩) hgb).trans f0, (B5.cell (p := ⟨gb, _, none⟩) hgb).trans f1, (B5.cell (p := ⟨w.heap.size, 0, none⟩) hbb).trans e0, (B5.cell (p := ⟨w.heap.size, 1, none⟩) hbb).trans e1⟩)
          ((go_at_call 77; refine (Hcall.out _).mono ?_; rintro e w5 ⟨rfl, B5⟩))
        go_wp2
        go_roundw
        case rel => exact ⟨h + 1, b, by omega, by omega, by go_num, rfl, hi2, hib, hB.trans ((((Below.refl _ wr).drew).trans (B5.mono (by simp))).mono hB.size)⟩
        case measure => simp [intOf]; omega
      · have hi2 := Hdn.out hz0
        go_region_held3 (fun wx => wx.cell? ⟨gb, go + h * 2, none⟩ = some (.int .i64 q1) ∧ wx.cell? ⟨gb, go + h * 2 + 1, none⟩ = some (.int .i64 q2) ∧ wx.cell? ⟨w.heap.size, 0, none⟩ = some (.int .i64 p1) ∧ wx.cell? ⟨w.heap.size, 1, none⟩ = some (.int .i64 p2))
          (first | go_keep | exact ⟨(B5.cell (p := ⟨gb, _, none⟩) hgb).trans f0, (B5.cell (p := ⟨gb, _, none⟩) hgb).trans f1, (B5.cell (p := ⟨w.heap.size, 0, none⟩) hbb).trans e0, (B5.cell (p := ⟨w.heap.size, 1, none⟩) hbb).trans e1⟩)
          ((go_at_call 77; refine (Hcall.out _).mono ?_; rintro e w5 ⟨rfl, B5⟩))
        go_wp2
        go_roundw
        case rel => exact ⟨a, h, by omega, by omega, rfl, rfl, hia, hi2, hB.trans ((((Below.refl _ wr).drew).trans (B5.mono (by simp))).mono hB.size)⟩
        case measure => simp [intOf]; omega
    · obtain rfl : a = b := by omega
      obtain ⟨k, hk⟩ : ∃ k, k = idxP l (p1, p2) := ⟨_, rfl⟩
      rw [← hk] at hia hib ⊢
      obtain rfl : a = k := by omega
      have Hk := Lib.hid hk
      clear hk
      have hBw : Below w.heap.size w wr := B0.trans (hB.mono B0.size)
      by_cases hin : a < n
      · obtain ⟨q, hq⟩ : ∃ q, l[a]? = some q := ⟨_, List.getElem?_eq_getElem (by rw [Hl.out]; omega)⟩
        obtain ⟨gb, go, rfl⟩ := hrd.addr (by omega)
        obtain ⟨f0, f1⟩ := hrr.pair Hl.out (i := a) hin hq
        have hhn : (a : Int) < (n : Int) := by omega
        obtain ⟨q1, q2⟩ := q
        simp only at f0 f1
        have hcall := fun w => find1_any q1 q2 p1 p2 w
        unfold CmpPost at hcall
        generalize cmpP (q1, q2) (p1, p2) = z at hcall
        have Hcall := Lib.hid hcall
        have hbb := x0r.lt
        have hgb := Rd.block_lt hrr (by omega)
        clear hcall hq
        go_wp2_with fail
        go_region_held3 (fun wx => wx.cell? ⟨gb, go + a * 2, none⟩ = some (.int .i64 q1) ∧ wx.cell? ⟨gb, go + a * 2 + 1, none⟩ = some (.int .i64 q2) ∧ wx.cell? ⟨w.heap.size, 0, none⟩ = some (.int .i64 p1) ∧ wx.cell? ⟨w.heap.size, 1, none⟩ = some (.int .i64 p2))
          (first | go_keep | exact ⟨(B5.cell (p := ⟨gb, _, none⟩) hgb).trans f0, (B5.cell (p := ⟨gb, _, none⟩) hgb).trans f1, (B5.cell (p := ⟨w.heap.size, 0, none⟩) hbb).trans e0, (B5.cell (p := ⟨w.heap.size, 1, none⟩) hbb).trans e1⟩)
          ((go_at_call 77; refine (Hcall.out _).mono ?_; rintro e w5 ⟨rfl, B5⟩))
        all_goals
          go_wp2
          go_ret2
          rw [← Hk.out]
          exact ⟨_, rfl, hBw.trans ((((Below.refl _ wr).drew).trans (B5.mono (by simp))).mono hBw.size)⟩
      · go_wp2_with fail
        go_quiet (fail)
        go_wp2
        go_ret2
        rw [← Hk.out]
        exact ⟨_, rfl, Below.drewN' hBw _⟩
theorem guard42 : Try.prog.eqGuardType Try.prog.depth 42 = false := by kernel_rfl
theorem eqPair (a b c d : Int) (w : World) : (binOp .eql 42 (.agg #[.int .i64 a, .int .i64 b]) (.agg #[.int .i64 c, .int .i64 d])).run Try.prog w = .ok (.bool (decide ((a, b) = (c, d)))) w := by
  have u40 := Try.underlying40
  have a40 := Try.isAgg40
  have z40 := Try.sizeOf40
  have hS : Try.prog.underlying 42 = some (.struct (Try.prog.fieldsOf 42)) := by kernel_rfl
  have hp : Try.prog.stoodInHeld 42 = false := by kernel_rfl
  rw [run_eql_struct, show (10000 : Nat) = 9999 + 1 from rfl, run_equalIn_agg w 9999 42 _ _ hS hp]
  simp only [Program.fieldsOf, Try.underlying42]
  go_simp
  by_cases h1 : a = c <;> by_cases h2 : b = d <;> simp [h1, h2]
theorem nePair (a b c d : Int) (w : World) : (binOp .neq 42 (.agg #[.int .i64 a, .int .i64 b]) (.agg #[.int .i64 c, .int .i64 d])).run Try.prog w = .ok (.bool (!decide ((a, b) = (c, d)))) w := by
  have u40 := Try.underlying40
  have a40 := Try.isAgg40
  have z40 := Try.sizeOf40
  have hS : Try.prog.underlying 42 = some (.struct (Try.prog.fieldsOf 42)) := by kernel_rfl
  have hp : Try.prog.stoodInHeld 42 = false := by kernel_rfl
  rw [run_neq_struct, show (10000 : Nat) = 9999 + 1 from rfl, run_equalIn_agg w 9999 42 _ _ hS hp]
  simp only [Program.fieldsOf, Try.underlying42]
  go_simp
  by_cases h1 : a = c <;> by_cases h2 : b = d <;> simp [h1, h2]
/-- A set of pairs at s: v is its slice, room its room. -/
structure SetAt (w : World) (s base : Nat) (v : Value) (room : Nat) (l : List Pr) : Prop where
  head : Blk w s 96 [v, .int .i64 room]
  own : w.ownsRow base 42 2 v l.length (pairCells l)
  rising : Rising l
  full : l.length ≤ room
  room : 1 ≤ room ∧ room ≤ 4096
theorem SetAt.len {w : World} {s base room : Nat} {v : Value} {l : List Pr} (h : SetAt w s base v room l) : l.length ≤ 4096 := Nat.le_trans h.full h.room.2
theorem SetAt.rd {w : World} {s base room : Nat} {v : Value} {l : List Pr} (h : SetAt w s base v room l) : Rd w v l.length 2 (pairCells l) := Rd.of_own h.own
theorem SetAt.new {w w' : World} {s base room : Nat} {v : Value} {l : List Pr} (h : SetAt w s base v room l) (hB : Below w.heap.size w w') : SetAt w' s base v room l :=
  ⟨h.head.below hB h.head.lt, own_new h.own hB, h.rising, h.full, h.room⟩
def FindPost (l : List Pr) (p : Pr) (w : World) (e : Ending) (w' : World) : Prop := e = .returned (.tuple #[.int .i64 (idxP l p), .bool (hasP l p)]) ∧ Below w.heap.size w w'
set_option maxRecDepth 100000 in
set_option maxHeartbeats 4000000 in
theorem find_any (s base room : Nat) (v : Value) (l : List Pr) (p : Pr) (w : World) (hs : SetAt w s base v room l) :
    Calls Try.prog 60 #[.pointer (some ⟨s, 0, none⟩), .agg #[.int .i64 p.1, .int .i64 p.2]] w (FindPost l p w) := by
  have hrd := hs.rd
  have hlen := hs.len
  have hhd := hs.head.lt
  have hrise := Lib.hid hs.rising
  have hmem := mem_idx hs.rising p
  obtain ⟨sa, sc, rfl, s1, s2⟩ := hrd.shape
  obtain ⟨n, hn⟩ : ∃ n, n = l.length := ⟨_, rfl⟩
  have c0 := hs.head.cell 0
  simp only [List.getElem?_cons_zero] at c0
  rw [← hn] at hrd s1 hlen c0
  have Hn := Lib.hid hn
  have hb := fun w' hrd => bsearch_any (.slice sa n sc) n l p Hn.out.symm hlen hrise.out w' hrd
  obtain ⟨k, hk⟩ : ∃ k, k = idxP l p := ⟨_, rfl⟩
  have hkn := idxP_le l p
  rw [← hn, ← hk] at hkn
  rw [← hk] at hb hmem
  have Hk := Lib.hid hk
  have Hb := Lib.hid hb
  have Hmem := Lib.hid hmem
  clear hn hk hb hmem
  obtain ⟨p1, p2⟩ := p
  go_enter Try.func60, Try.ntmps60
  go_wp2
  obtain ⟨W0, hW0⟩ : ∃ W0, w.alloc (.cells #[.int .i64 p1, .int .i64 p2] 42) = W0 := ⟨_, rfl⟩
  have x0 : Blk W0 w.heap.size 42 [.int .i64 p1, .int .i64 p2] := by rw [← hW0]; exact Blk.new w 42 [_, _]
  have B0 : Below w.heap.size w W0 := by rw [← hW0]; exact (Below.refl _ w).alloc (Nat.le_refl _) _
  rw [hW0]
  clear hW0
  have e0 := x0.cell 0
  have e1 := x0.cell 1
  simp only [List.getElem?_cons_zero, List.getElem?_cons_succ] at e0 e1
  have c0' : W0.cell? ⟨s, 0, none⟩ = some (.slice sa n sc) := (B0.cell (p := ⟨s, 0, none⟩) hhd).trans c0
  have hbb := x0.lt
  have hss : s < W0.heap.size := by have := B0.size; omega
  have hrd0 := hrd.new B0
  go_region_held3 (fun wx => wx.cell? ⟨s, 0, none⟩ = some (.slice sa n sc) ∧ wx.cell? ⟨w.heap.size, 0, none⟩ = some (.int .i64 p1) ∧ wx.cell? ⟨w.heap.size, 1, none⟩ = some (.int .i64 p2))
    (first | go_keep | exact ⟨(B5.cell (p := ⟨s, 0, none⟩) hss).trans c0', (B5.cell (p := ⟨w.heap.size, 0, none⟩) hbb).trans e0, (B5.cell (p := ⟨w.heap.size, 1, none⟩) hbb).trans e1⟩)
    ((go_at_call 76; refine (Hb.out _ (by exact hrd0.drew)).mono ?_; rintro e w5 ⟨b, rfl, B5⟩))
  have hd0 := hrd0.drew
  have B5' : Below W0.heap.size W0 w5 := ((Below.refl _ W0).drew).trans (B5.mono (by simp))
  have hrd5 := hrd0.new B5'
  have hBw : Below w.heap.size w w5 := B0.trans (B5'.mono B0.size)
  have c5 := (B5'.cell (p := ⟨s, 0, none⟩) hss).trans c0'
  have e50 := (B5'.cell (p := ⟨w.heap.size, 0, none⟩) hbb).trans e0
  have e51 := (B5'.cell (p := ⟨w.heap.size, 1, none⟩) hbb).trans e1
  clear e0 e1 c0' c0
  by_cases hin : k < n
  · obtain ⟨q, hq⟩ : ∃ q, l[k]? = some q := ⟨_, List.getElem?_eq_getElem (by rw [← Hn.out]; omega)⟩
    obtain ⟨gb, go, rfl⟩ := hrd.addr (by omega)
    obtain ⟨f0, f1⟩ := hrd5.pair Hn.out.symm (i := k) hin hq
    have hkn' : (k : Int) < (n : Int) := by omega
    obtain ⟨q1, q2⟩ := q
    simp only at f0 f1
    have hfin : hasP l (p1, p2) = decide ((q1, q2) = (p1, p2)) := by
      have := Hmem.out
      rw [hq] at this
      simp only [hasP, this, Option.some.injEq]
    have Hfin := Lib.hid hfin
    have heq := fun w => eqPair q1 q2 p1 p2 w
    have hgd := guard42
    clear hq hfin
    generalize decide ((q1, q2) = (p1, p2)) = z at *
    go_wp2_with fail
    go_quiet (fail)
    go_wp2
    go_ret2
    exact ⟨by rw [← Hk.out, Hfin.out]; rfl, Below.drewN' hBw _⟩
  · have hfin : hasP l (p1, p2) = false := by
      have := Hmem.out
      rw [List.getElem?_eq_none (by rw [← Hn.out]; omega)] at this
      simp [hasP, this]
    have Hfin := Lib.hid hfin
    clear hfin
    go_wp2_with fail
    go_quiet (fail)
    go_wp2
    go_ret2
    exact ⟨by rw [← Hk.out, Hfin.out]; rfl, Below.drewN' hBw _⟩
end Go.Proofs.Ytlcmjpligaiadaa
