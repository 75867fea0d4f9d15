/- Event queues: All; two lists of events held against each other. -/
import Derived.Test.YtlcmjpligaiadaaE3
import Derived.Deep.AppendLies
namespace Go.Proofs.Ytlcmjpligaiadaa
open Go.RowKit
theorem guard56 : Try.prog.eqGuardType Try.prog.depth 56 = false := by kernel_rfl
theorem eqEv (x y : Ev) (w : World) : (binOp .eql 56 (.agg #[.int .i64 x.kind, .int .i64 x.a, .int .i64 x.b]) (.agg #[.int .i64 y.kind, .int .i64 y.a, .int .i64 y.b])).run Try.prog w = .ok (.bool (decide (x = y))) w := by
  obtain ⟨k1, a1, b1⟩ := x
  obtain ⟨k2, a2, b2⟩ := y
  have u3 := Try.underlying3
  have a3 := Try.isAgg3
  have z3 := Try.sizeOf3
  have u40 := Try.underlying40
  have a40 := Try.isAgg40
  have z40 := Try.sizeOf40
  have hS : Try.prog.underlying 56 = some (.struct (Try.prog.fieldsOf 56)) := by kernel_rfl
  have hp : Try.prog.stoodInHeld 56 = false := by kernel_rfl
  rw [run_eql_struct, show (10000 : Nat) = 9999 + 1 from rfl, run_equalIn_agg w 9999 56 _ _ hS hp]
  simp only [Program.fieldsOf, Try.underlying56]
  go_simp
  by_cases h1 : k1 = k2 <;> by_cases h2 : a1 = a2 <;> by_cases h3 : b1 = b2 <;> simp [h1, h2, h3]
theorem neEv (x y : Ev) (w : World) : (binOp .neq 56 (.agg #[.int .i64 x.kind, .int .i64 x.a, .int .i64 x.b]) (.agg #[.int .i64 y.kind, .int .i64 y.a, .int .i64 y.b])).run Try.prog w = .ok (.bool (!decide (x = y))) w := by
  obtain ⟨k1, a1, b1⟩ := x
  obtain ⟨k2, a2, b2⟩ := y
  have u3 := Try.underlying3
  have a3 := Try.isAgg3
  have z3 := Try.sizeOf3
  have u40 := Try.underlying40
  have a40 := Try.isAgg40
  have z40 := Try.sizeOf40
  have hS : Try.prog.underlying 56 = some (.struct (Try.prog.fieldsOf 56)) := by kernel_rfl
  have hp : Try.prog.stoodInHeld 56 = false := by kernel_rfl
  rw [run_neq_struct, show (10000 : Nat) = 9999 + 1 from rfl, run_equalIn_agg w 9999 56 _ _ hS hp]
  simp only [Program.fieldsOf, Try.underlying56]
  go_simp
  by_cases h1 : k1 = k2 <;> by_cases h2 : a1 = a2 <;> by_cases h3 : b1 = b2 <;> simp [h1, h2, h3]
set_option maxRecDepth 100000 in
set_option maxHeartbeats 4000000 in
theorem events_any (av bv : Value) (n : Nat) (l : List Ev) (hl : l.length = n) (w : World) (ha : Rd w av n 3 (evCells l)) (hb : Rd w bv n 3 (evCells l)) :
    Calls Try.prog 33 #[av, bv] w fun e w' => e = .returned (.bool true) ∧ ∃ j, w' = w.drewN j := by
  obtain ⟨aa, ac, rfl, a1, a2⟩ := ha.shape
  obtain ⟨ba, bc, rfl, b1, b2⟩ := hb.shape
  have Hl := Lib.hid hl
  clear hl
  have hnn : ((n : Int) != (n : Int)) = false := by simp
  go_enter Try.func33, Try.ntmps33
  go_wp2
  go_loopw [5] (fun i wr => ∃ k : Nat, k ≤ n ∧ i = .int .i64 k ∧ ∃ d, wr = w.drewN d) (fun i _ => n - (intOf i).toNat)
  case atStart => exact ⟨0, Nat.zero_le _, rfl, 0, rfl⟩
  case round =>
    obtain ⟨k, hk, rfl, d, rfl⟩ := hrel
    by_cases hlt : k < n
    · obtain ⟨p, hp⟩ : ∃ p, l[k]? = some p := ⟨_, List.getElem?_eq_getElem (by rw [Hl.out]; exact hlt)⟩
      obtain ⟨ab, ao, rfl⟩ := ha.addr (by omega)
      obtain ⟨bb, bo, rfl⟩ := hb.addr (by omega)
      obtain ⟨f0, f1, f2⟩ := ha.ev hlt hp
      obtain ⟨g0, g1, g2⟩ := hb.ev hlt hp
      have hne := fun w => neEv p p w
      simp only [decide_true, Bool.not_true] at hne
      obtain ⟨p1, p2, p3⟩ := p
      simp only at f0 f1 f2 g0 g1 g2 hne
      have hkI : (k : Int) < (n : Int) := by omega
      have hgd := guard56
      clear hp
      go_wp2
      go_quiet (fail)
      go_wp2
      go_roundw
      case rel => exact ⟨k + 1, by omega, by go_num, _, rfl⟩
      case measure => simp [intOf]; omega
    · obtain rfl : n = k := by omega
      go_wp2
      go_ret
      exact ⟨rfl, d, rfl⟩
theorem clip67_any (ao : Option Addr) (n cap : Nat) (w : World) (h : n ≤ cap) (_h2 : cap ≤ 9223372036854775807) :
    Calls Try.prog 67 #[.slice ao n cap] w fun e w' => e = .returned (.slice ao n n) ∧ w = w' := by
  have h3 : (n : Int) ≤ (cap : Int) := by omega
  go_enter Try.func67, Try.ntmps67
  go_wp2
  go_ret
  exact ⟨rfl, rfl⟩
def AllPost (L : List Ev) (w : World) (e : Ending) (w' : World) : Prop :=
  ∃ oa c, e = .returned (.slice oa L.length L.length) ∧ w'.ownsRow w.heap.size 56 3 (.slice oa L.length c) L.length (evCells L) ∧ Below w.heap.size w w'
set_option maxRecDepth 100000 in
set_option maxHeartbeats 4000000 in
theorem qall_any (q g n f m : Nat) (L : List Ev) (w : World) (h : QAt w q g n f m L) :
    Calls Try.prog 34 #[.pointer (some ⟨q, 0, none⟩)] w (AllPost L w) := by
  obtain ⟨i0, hi, hz0, hz1, hz2⟩ := info_parts info56
  have hn := h.room
  have hmn := h.full
  have hLm := h.len
  have hq0 := h.head.lt
  have hg0 := h.glt
  have c2 := h.head.cell 2
  simp only [List.getElem?_cons_zero, List.getElem?_cons_succ] at c2
  have Hlm := Lib.hid hLm
  clear hLm
  go_enter Try.func34, Try.ntmps34
  go_wp2
  go_loopw [3, 4, 9] (fun o _ i wr => ∃ (j : Nat) (ov : Value), j ≤ m ∧ i = .int .i64 j ∧ ov = o ∧ wr.ownsRow w.heap.size 56 3 ov j (evCells (L.take j)) ∧ Below w.heap.size w wr) (fun _ _ i _ => m - (intOf i).toNat)
  case atStart => exact ⟨0, _, Nat.zero_le _, rfl, rfl, World.ownsRow_nil _ _ _ _, Below.refl _ _⟩
  case round =>
    obtain ⟨j, ov, hj, rfl, rfl, ho, hB⟩ := hrel
    have hBs := hB.size
    by_cases hlt : j < m
    · have hjI : (j : Int) < (m : Int) := by omega
      obtain ⟨e, he⟩ : ∃ e, L[j]? = some e := ⟨_, List.getElem?_eq_getElem (by rw [Hlm.out]; exact hlt)⟩
      have hQ := h.new hB
      obtain ⟨X, h1, h2, h3⟩ := hQ.ring
      obtain ⟨p, hp⟩ : ∃ p, (f + j) % n = p := ⟨_, rfl⟩
      have hx := h3 j hlt
      rw [hp, he] at hx
      have hpn : p < n := by rw [← h2]; exact (List.getElem?_eq_some_iff.1 hx).1
      obtain ⟨y0, y1, y2⟩ := ev_get hx
      have z0 := (h1.cell (p * 3)).trans y0
      have z1 := (h1.cell (p * 3 + 1)).trans y1
      have z2 := (h1.cell (p * 3 + 2)).trans y2
      have c0 := hQ.head.cell 0
      simp only [List.getElem?_cons_zero] at c0
      have hg := h1.lt
      have hq := hQ.head.lt
      have htk : L.take (j + 1) = L.take j ++ [e] := by
        obtain ⟨h1, h2⟩ := List.getElem?_eq_some_iff.1 he
        rw [List.take_succ_eq_append_getElem h1, h2]
      have hat := fun W (hW : QAt W q g n f m L) => at_b q g n f m L j p (by omega) hp W hW
      have hpI : (p : Int) < (n : Int) := by omega
      have hp0 : (0 : Int) ≤ (p : Int) := by omega
      obtain ⟨ek, ea, eb⟩ := e
      simp only at z0 z1 z2
      have Hat := Lib.hid hat
      have Htk := Lib.hid htk
      clear hp hx y0 y1 y2 h1 h2 h3 hat htk he c2
      have Qd := hQ.new ((Below.refl _ wr).drew)
      go_wp2
      go_region_held3 (fun wx => wx.cell? ⟨q, 0, none⟩ = some (.slice (some ⟨g, 0, none⟩) n n) ∧ wx.cell? ⟨g, p * 3, none⟩ = some (.int .i64 ek) ∧ wx.cell? ⟨g, p * 3 + 1, none⟩ = some (.int .i64 ea) ∧ wx.cell? ⟨g, p * 3 + 2, none⟩ = some (.int .i64 eb))
        (first
          | go_keep
          | exact ⟨k4, k5, k6, k7⟩)
        (first
          | (go_at_call 66; refine (Hat.out _ Qd).mono ?_
             rintro r w5 ⟨rfl, B5'⟩
             have B5 : Below wr.heap.size wr w5 := ((Below.refl _ wr).drew).trans (B5'.mono (by simp))
             have k0 := (B5.cell (p := ⟨q, 0, none⟩) hq).trans c0
             have k1 := (B5.cell (p := ⟨g, p * 3, none⟩) hg).trans z0
             have k2 := (B5.cell (p := ⟨g, p * 3 + 1, none⟩) hg).trans z1
             have k3 := (B5.cell (p := ⟨g, p * 3 + 2, none⟩) hg).trans z2
             have hs5 := B5.size
             have hq5 : q < w5.heap.size := by omega
             have hg5 : g < w5.heap.size := by omega
             have o5 := own_new ho B5)
          | (refine step_append_lies _ (by rfl) _ _ _ (by rfl) w.heap.size 56 i0 _ 3 24 Try.underlying53 hi hz0 hz1 hz2 rfl (by omega) _ j (evCells (L.take j)) (by rfl) (o5.alloc _) ⟨w5.heap.size, 0, none⟩ 1 1 [.int .i64 ek, .int .i64 ea, .int .i64 eb] (by rfl) (by rfl) (World.news_of_block (cs := #[.int .i64 ek, .int .i64 ea, .int .i64 eb]) (t := 56) (fr := (0, 0)) (heap_alloc_new w5 _)) (by simp [Value.oneCell']) (by omega) (by unfold maxLen; omega) (by omega) (by simp; omega) (w5.heap.size + 1) (by simp) ?_
             intro gg cap w6 o6 g6 hat6 hlt6
             have B6 : Below w.heap.size w w6 := ((hB.trans (B5.mono hBs)).alloc (by omega) (.cells #[.int .i64 ek, .int .i64 ea, .int .i64 eb] 56)).grown g6 (by simp; omega) (fun r hr => ownBlock_ge o5 hr)
             have k4 := (B6.cell (p := ⟨q, 0, none⟩) hq0).trans ((hB.cell (p := ⟨q, 0, none⟩) hq0).symm.trans c0)
             have k5 := (B6.cell (p := ⟨g, p * 3, none⟩) hg0).trans ((hB.cell (p := ⟨g, p * 3, none⟩) hg0).symm.trans z0)
             have k6 := (B6.cell (p := ⟨g, p * 3 + 1, none⟩) hg0).trans ((hB.cell (p := ⟨g, p * 3 + 1, none⟩) hg0).symm.trans z1)
             have k7 := (B6.cell (p := ⟨g, p * 3 + 2, none⟩) hg0).trans ((hB.cell (p := ⟨g, p * 3 + 2, none⟩) hg0).symm.trans z2)))
      go_wp2
      go_roundw
      case rel => exact ⟨j + 1, _, by omega, by go_num, rfl, by rw [Htk.out, ev_append]; exact o6, B6⟩
      case measure => simp [intOf]; omega
    · obtain rfl : j = m := by omega
      have hjI : ¬ (j : Int) < (j : Int) := by omega
      have ht : L.take j = L := by rw [List.take_of_length_le (by rw [Hlm.out]; exact Nat.le_refl _)]
      rw [ht] at ho
      obtain ⟨oa, oc, rfl, o1, o2⟩ := (Rd.of_own ho).shape
      have Ho := Lib.hid ho
      clear ho ht
      go_wp2_with fail
      refine (clip67_any _ _ _ _ o1 o2).mono ?_
      rintro e w2 ⟨rfl, rfl⟩
      go_wp2
      go_ret
      exact ⟨oa, oc, by rw [Hlm.out]; rfl, by rw [Hlm.out]; exact Ho.out, hB⟩
end Go.Proofs.Ytlcmjpligaiadaa
