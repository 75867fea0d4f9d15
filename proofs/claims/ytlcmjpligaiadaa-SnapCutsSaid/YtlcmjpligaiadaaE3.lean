/- Event queues: Push, All; two lists of events held against each other. -/
import Derived.Test.YtlcmjpligaiadaaE2
namespace Go.Proofs.Ytlcmjpligaiadaa
open Go.RowKit
set_option maxRecDepth 100000 in
set_option maxHeartbeats 1000000 in
theorem push_no (q g n f m : Nat) (L : List Ev) (lv : Value) (k : Nat) (es : List Ev) (w : World) (h : QAt w q g n f m L) (hr : Rd w lv k 3 (evCells es)) (hk : n - m < k) :
    Calls Try.prog 31 #[.pointer (some ⟨q, 0, none⟩), lv] w fun e w' => e = .returned (.int .i64 190) ∧ Below w.heap.size w w' := by
  obtain ⟨la, lc, rfl, _, _⟩ := hr.shape
  have hkI : ((n - m : Nat) : Int) < (k : Int) := by omega
  have hfr := free_any q g n f m L w h
  have Hfr := Lib.hid hfr
  clear hfr hk
  generalize n - m = fr at hkI Hfr
  go_enter Try.func31, Try.ntmps31
  go_wp2_with fail
  refine Hfr.out.mono ?_
  rintro e w1 ⟨rfl, d, rfl⟩
  go_wp2
  go_ret
  exact ⟨rfl, Below.drewN' (Below.refl _ _) d⟩
def PushPost (q g n f m : Nat) (L es : List Ev) (w : World) (r : Ending) (w' : World) : Prop :=
  r = .returned (.int .i64 0) ∧ QAt w' q g n f (m + es.length) (L ++ es) ∧ Mod (fun j => j = q ∨ j = g) w w'
set_option maxRecDepth 100000 in
set_option maxHeartbeats 2000000 in
theorem push_ok (q g n f m : Nat) (L : List Ev) (lv : Value) (k : Nat) (es : List Ev) (hl : es.length = k) (w : World) (h : QAt w q g n f m L) (hr : Rd w lv k 3 (evCells es)) (hk : k ≤ n - m) (hap : k ≠ 0 → ∀ b, lv.ownBlock = some b → b ≠ q ∧ b ≠ g) :
    Calls Try.prog 31 #[.pointer (some ⟨q, 0, none⟩), lv] w (PushPost q g n f m L es w) := by
  obtain ⟨la, lc, rfl, _, _⟩ := hr.shape
  have hkI : ¬ ((n - m : Nat) : Int) < (k : Int) := by omega
  have hfr := free_any q g n f m L w h
  have Hfr := Lib.hid hfr
  have hn := h.room
  have hmn := h.full
  have hk2 : k ≤ 1024 := by omega
  have Hl := Lib.hid hl
  clear hfr hl
  generalize hfn : n - m = fr at hkI Hfr hk
  have Hfn := Lib.hid hfn
  have hdec : decide (fr < k) = false := by simp; omega
  clear hfn
  go_enter Try.func31, Try.ntmps31
  go_wp2_with fail
  refine Hfr.out.mono ?_
  rintro e w1 ⟨rfl, d, rfl⟩
  go_wp2
  go_loopw [6, 14] (fun _ i wr => ∃ j : Nat, j ≤ k ∧ i = .int .i64 j ∧ QAt wr q g n f (m + j) (L ++ es.take j) ∧ Mod (fun j => j = q ∨ j = g) w wr) (fun _ i _ => k - (intOf i).toNat)
  case atStart => exact ⟨0, Nat.zero_le _, rfl, by simpa using h.new (Below.drewN' (Below.refl _ _) d), below_mod (Below.drewN' (Below.refl _ _) d)⟩
  case round =>
    obtain ⟨j, hj, rfl, hQ, hM⟩ := hrel
    by_cases hlt : j < k
    · have hjI : (j : Int) < (k : Int) := by omega
      obtain ⟨e, he⟩ : ∃ e, es[j]? = some e := ⟨_, List.getElem?_eq_getElem (by rw [Hl.out]; exact hlt)⟩
      obtain ⟨ab, ao, rfl⟩ := hr.addr (by omega)
      have hr' := hr.mod hM (fun b hb hs => by
        have := hap (by omega) b hb
        rcases hs with hs | hs
        · exact this.1 hs
        · exact this.2 hs)
      obtain ⟨f0, f1, f2⟩ := hr'.ev hlt he
      have htk : es.take (j + 1) = es.take j ++ [e] := by
        obtain ⟨h1, h2⟩ := List.getElem?_eq_some_iff.1 he
        rw [List.take_succ_eq_append_getElem h1, h2]
      have hmj : m + j < n := by have := Hfn.out; omega
      obtain ⟨p, hp⟩ : ∃ p, (f + (m + j)) % n = p := ⟨_, rfl⟩
      have hpn : p < n := by rw [← hp]; exact Nat.mod_lt _ (by omega)
      have hput := fun W (hW : QAt W q g n f (m + j) (L ++ es.take j)) => qat_put (p := p) hW hmj hp e
      obtain ⟨X, h1, h2, h3⟩ := hQ.ring
      obtain ⟨x, hx⟩ : ∃ x, X[p]? = some x := ⟨_, List.getElem?_eq_getElem (by omega)⟩
      obtain ⟨y0, y1, y2⟩ := ev_get hx
      have z0 := (h1.cell (p * 3)).trans y0
      have z1 := (h1.cell (p * 3 + 1)).trans y1
      have z2 := (h1.cell (p * 3 + 2)).trans y2
      have t0 := h1.frozen (p * 3)
      have t1 := h1.frozen (p * 3 + 1)
      have t2 := h1.frozen (p * 3 + 2)
      have c0 := hQ.head.cell 0
      have c2 := hQ.head.cell 2
      have k2 := hQ.head.frozen 2
      simp only [List.getElem?_cons_zero, List.getElem?_cons_succ] at c0 c2
      have hg := h1.lt
      have hq := hQ.head.lt
      have hne : ¬ q = g := hQ.ne
      have hne' : ¬ g = q := fun e => hne e.symm
      have habl : ab < wr.heap.size := hr'.block_lt (by omega)
      have hat := fun W (hW : QAt W q g n f (m + j) (L ++ es.take j)) => at_any q g n f (m + j) _ (m + j) (by omega) W hW
      rw [hp] at hat
      have hpI : (p : Int) < (n : Int) := by omega
      have hp0 : (0 : Int) ≤ (p : Int) := by omega
      obtain ⟨ek, ea, eb⟩ := e
      simp only at f0 f1 f2
      have Hat := Lib.hid hat
      have Hput := Lib.hid hput
      have Htk := Lib.hid htk
      obtain ⟨M, hMe⟩ : ∃ M, M = m + j := ⟨_, rfl⟩
      have HM := Lib.hid hMe
      rw [← hMe] at c2 Hat
      have hM1 : (M : Int) ≤ 1024 := by omega
      clear hp hx y0 y1 y2 h1 h2 h3 hat hput htk he hMe
      go_wp2
      obtain ⟨W1, hW1⟩ : ∃ W1, wr.alloc (.cells #[.int .i64 ek, .int .i64 ea, .int .i64 eb] 56) = W1 := ⟨_, rfl⟩
      have B1 : Below wr.heap.size wr W1 := by rw [← hW1]; exact (Below.refl _ wr).alloc (Nat.le_refl _) _
      have xb : Blk W1 wr.heap.size 56 [.int .i64 ek, .int .i64 ea, .int .i64 eb] := by rw [← hW1]; exact Blk.new wr 56 [_, _, _]
      rw [hW1]
      clear hW1
      have hng : ¬ wr.heap.size = g := by omega
      have hng' : ¬ g = wr.heap.size := by omega
      have Q1 := hQ.new B1
      have Q1M : QAt W1 q g n f M (L ++ es.take j) := by rw [HM.out]; exact Q1
      have b0 := xb.cell 0
      have b1 := xb.cell 1
      have b2 := xb.cell 2
      simp only [List.getElem?_cons_zero, List.getElem?_cons_succ] at b0 b1 b2
      have z0 := (B1.cell (p := ⟨g, p * 3, none⟩) hg).trans z0
      have z1 := (B1.cell (p := ⟨g, p * 3 + 1, none⟩) hg).trans z1
      have z2 := (B1.cell (p := ⟨g, p * 3 + 2, none⟩) hg).trans z2
      have t0 := (B1.frozen (p := ⟨g, p * 3, none⟩) hg).trans t0
      have t1 := (B1.frozen (p := ⟨g, p * 3 + 1, none⟩) hg).trans t1
      have t2 := (B1.frozen (p := ⟨g, p * 3 + 2, none⟩) hg).trans t2
      have c0 := (B1.cell (p := ⟨q, 0, none⟩) hq).trans c0
      have c2 := (B1.cell (p := ⟨q, 2, none⟩) hq).trans c2
      have k2 := (B1.frozen (p := ⟨q, 2, none⟩) hq).trans k2
      have M1 := hM.trans (below_mod B1 (S := fun j => j = q ∨ j = g))
      go_region_held3 (fun wx => wx.cell? ⟨q, 0, none⟩ = some (.slice (some ⟨g, 0, none⟩) n n) ∧ wx.cell? ⟨q, 2, none⟩ = some (.int .i64 (M : Int)) ∧ wx.cell? ⟨wr.heap.size, 0, none⟩ = some (.int .i64 ek) ∧ wx.cell? ⟨wr.heap.size, 1, none⟩ = some (.int .i64 ea) ∧ wx.cell? ⟨wr.heap.size, 2, none⟩ = some (.int .i64 eb)) (go_keep)
        ((go_at_call 66; refine (Hat.out _ (Q1M.new ?hB)).mono ?_
          case hB => exact (Below.refl _ W1).drew
          rintro r w5 ⟨rfl, d, rfl⟩))
      go_wp2
      have hfin := Hput.out (W1.drewN (1 + d)) (Q1.new (Below.drewN' (Below.refl _ _) _))
      have eM : ((m + j + 1 : Nat) : Int) = (M : Int) + 1 := by have := HM.out; omega
      unfold set3 at hfin
      rw [eM] at hfin
      obtain ⟨hQ2, hM2⟩ := hfin
      have HQ2 := Lib.hid hQ2
      have HM2 := Lib.hid hM2
      clear eM hQ2 hM2
      go_roundw
      case rel => exact ⟨j + 1, by omega, by go_num, by rw [Htk.out, ← List.append_assoc]; exact HQ2.out, (M1.trans (below_mod (Below.drewN' (Below.refl _ _) _))).trans HM2.out⟩
      case measure => simp [intOf]; omega
    · obtain rfl : j = k := by omega
      have hjI : ¬ (j : Int) < (j : Int) := by omega
      have ht : es.take j = es := by rw [List.take_of_length_le (by rw [Hl.out]; exact Nat.le_refl _)]
      rw [ht] at hQ
      have HQ := Lib.hid hQ
      clear hQ ht
      go_wp2
      go_ret
      exact ⟨rfl, by rw [Hl.out]; exact HQ.out, hM⟩
end Go.Proofs.Ytlcmjpligaiadaa
