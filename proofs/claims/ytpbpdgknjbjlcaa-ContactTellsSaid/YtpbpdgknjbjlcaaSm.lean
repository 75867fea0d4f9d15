/- Contacts: a patch is the same as its like. -/
import Derived.Test.YtpbpdgknjbjlcaaCs
import Derived.Test.YtpbpdgknjbjlcaaCw
namespace Go.Proofs.Ytpbpdgknjbjlcaa
open Go.RowKit
abbrev spV (s : Sp) : Value := .agg #[.int .i64 s.p.x, .int .i64 s.p.y, .int .i64 s.p.z, .int .i64 s.d, .int .i64 s.id]
theorem guard40 : Try.prog.eqGuardType Try.prog.depth 40 = false := by kernel_rfl
theorem neSp (s : Sp) (w : World) : (binOp .neq 40 (spV s) (spV s)).run Try.prog w = .ok (.bool false) w := by
  have u3 := Try.underlying3
  have a3 := Try.isAgg3
  have z3 := Try.sizeOf3
  have u26 := Try.underlying26
  have a26 := Try.isAgg26
  have z26 := Try.sizeOf26
  have hS : Try.prog.underlying 40 = some (.struct (Try.prog.fieldsOf 40)) := by kernel_rfl
  have hS2 : Try.prog.underlying 26 = some (.struct (Try.prog.fieldsOf 26)) := by kernel_rfl
  have hp : Try.prog.stoodInHeld 40 = false := by kernel_rfl
  have hp2 : Try.prog.stoodInHeld 26 = false := by kernel_rfl
  rw [run_neq_struct, show (10000 : Nat) = 9998 + 1 + 1 from rfl, run_equalIn_agg w (9998 + 1) 40 _ _ hS hp]
  simp only [Program.fieldsOf, Try.underlying40]
  go_simp
theorem eqP_self (p : Pt) : eqP p p = true := by simp [eqP]
set_option maxRecDepth 100000 in
theorem same7_like (A : Pt) (sv tv : Value) (n : Nat) (l : List Sp) (w : World) (hl : l.length = n) (hs : Rd w sv n 5 (spCells l)) (ht : Rd w tv n 5 (spCells l)) :
    Calls Try.prog 7 #[.agg #[.int .i64 A.x, .int .i64 A.y, .int .i64 A.z, sv], .agg #[.int .i64 A.x, .int .i64 A.y, .int .i64 A.z, tv]] w fun e w' => e = .returned (.bool true) ∧ Below w.heap.size w w' := by
  obtain ⟨sa, sc, rfl, s1, s2⟩ := hs.shape
  obtain ⟨ta, tc, rfl, t1, t2⟩ := ht.shape
  have B0 : Below w.heap.size w ((w.alloc (.cells [.int .i64 A.x, .int .i64 A.y, .int .i64 A.z, .slice sa n sc].toArray 32)).alloc (.cells [.int .i64 A.x, .int .i64 A.y, .int .i64 A.z, .slice ta n tc].toArray 32)) := ((Below.refl _ w).alloc (Nat.le_refl _) _).alloc (by simp) _
  have hb0 := (Blk.newAt (w := w) (b := w.heap.size) rfl 32 [.int .i64 A.x, .int .i64 A.y, .int .i64 A.z, .slice sa n sc]).alloc (.cells [.int .i64 A.x, .int .i64 A.y, .int .i64 A.z, .slice ta n tc].toArray 32)
  have hb1 := Blk.newAt (w := w.alloc (.cells [.int .i64 A.x, .int .i64 A.y, .int .i64 A.z, .slice sa n sc].toArray 32)) (b := w.heap.size + 1) (by simp) 32 [.int .i64 A.x, .int .i64 A.y, .int .i64 A.z, .slice ta n tc]
  have Hl := Lib.hid hl
  have Hs := Lib.hid hs
  have Ht := Lib.hid ht
  have hg26 := guard26
  have hg40 := guard40
  have heq : ∀ W, (binOp .neq 26 (ptV A) (ptV A)).run Try.prog W = .ok (.bool false) W := fun W => by rw [nePt, eqP_self]; rfl
  clear hl hs ht
  go_enter Try.func7, Try.ntmps7
  go_upto_region 1 with (fail)
  obtain ⟨w1, hw1⟩ : ∃ w1, (w.alloc (.cells [.int .i64 A.x, .int .i64 A.y, .int .i64 A.z, .slice sa n sc].toArray 32)).alloc (.cells [.int .i64 A.x, .int .i64 A.y, .int .i64 A.z, .slice ta n tc].toArray 32) = w1 := ⟨_, rfl⟩
  change Code.wp _ _ _ _ ((w.alloc (.cells [.int .i64 A.x, .int .i64 A.y, .int .i64 A.z, .slice sa n sc].toArray 32)).alloc (.cells [.int .i64 A.x, .int .i64 A.y, .int .i64 A.z, .slice ta n tc].toArray 32))
  rw [hw1] at B0 hb0 hb1 ⊢
  clear hw1
  obtain ⟨c0, hc0⟩ : ∃ c, c = w.heap.size := ⟨_, rfl⟩
  simp only [← hc0] at hb0 hb1 ⊢
  have Hc0 := Lib.hid hc0
  have HB0 := Lib.hid B0
  have hs1 := B0.size
  have k0 : _ = some (Value.int .i64 A.x) := hb0.cell 0
  have k1 : _ = some (Value.int .i64 A.y) := hb0.cell 1
  have k2 : _ = some (Value.int .i64 A.z) := hb0.cell 2
  have k3 : _ = some (Value.slice sa n sc) := hb0.cell 3
  have j0 : _ = some (Value.int .i64 A.x) := hb1.cell 0
  have j1 : _ = some (Value.int .i64 A.y) := hb1.cell 1
  have j2 : _ = some (Value.int .i64 A.z) := hb1.cell 2
  have j3 : _ = some (Value.slice ta n tc) := hb1.cell 3
  have Hb0 := Lib.hid hb0
  have Hb1 := Lib.hid hb1
  have Hs1 := Lib.hid (Hs.out.new HB0.out)
  have Ht1 := Lib.hid (Ht.out.new HB0.out)
  clear hc0 B0 hb0 hb1 Hs Ht
  go_upto_block 4 with (fail)
  clear k0 k1 k2 k3 j0 j1 j2 j3 heq hg26
  go_loopg [5] n (fun g i wx => ∃ k : Nat, g = n - k ∧ k ≤ n ∧ i = .int .i64 (k : Int) ∧ Below w1.heap.size w1 wx)
  case atStart => exact ⟨0, rfl, Nat.zero_le _, rfl, Below.refl _ _⟩
  case round =>
    obtain ⟨k, hg, hk, rfl, hB⟩ := hrel
    have Hg := Lib.hid hg
    clear hg
    have k3 : _ = some (Value.slice sa n sc) := (Hb0.out.below hB Hb0.out.lt).cell 3
    by_cases hkn : k < n
    · have hsp := spAt_get (l := l) (k := k) (by rw [Hl.out]; exact hkn)
      obtain ⟨sb, so, rfl⟩ := Hs1.out.addr (by omega)
      obtain ⟨tb, to', rfl⟩ := Ht1.out.addr (by omega)
      have hkI : (k : Int) < (n : Int) := by omega
      have hs := hB.size
      have HB := Lib.hid hB
      have A0 : ∀ u : After wr, u.W.cell? ⟨c0, 3, none⟩ = some (Value.slice (some ⟨sb, so, none⟩) n sc) := fun u => (Hb0.out.below (HB.out.trans (u.h.mono hs)) Hb0.out.lt).cell 3
      have A1 : ∀ u : After wr, u.W.cell? ⟨c0 + 1, 3, none⟩ = some (Value.slice (some ⟨tb, to', none⟩) n tc) := fun u => (Hb1.out.below (HB.out.trans (u.h.mono hs)) Hb1.out.lt).cell 3
      have F : ∀ u : After wr, _ := fun u => (Hs1.out.new (HB.out.trans (u.h.mono hs))).sp hkn hsp
      have G : ∀ u : After wr, _ := fun u => (Ht1.out.new (HB.out.trans (u.h.mono hs))).sp hkn hsp
      have F0 := fun u => (F u).1
      have F1 := fun u => (F u).2.1
      have F2 := fun u => (F u).2.2.1
      have F3 := fun u => (F u).2.2.2.1
      have F4 := fun u => (F u).2.2.2.2
      have G0 := fun u => (G u).1
      have G1 := fun u => (G u).2.1
      have G2 := fun u => (G u).2.2.1
      have G3 := fun u => (G u).2.2.2.1
      have G4 := fun u => (G u).2.2.2.2
      have heq : ∀ W, (binOp .neq 40 (spV (spAt l k)) (spV (spAt l k))).run Try.prog W = .ok (.bool false) W := fun W => neSp _ W
      clear hsp F G hB
      generalize spAt l k = s at *
      go_upto_region 6 with (fail)
      refine wp_region_after (by kernel_rfl) (by kernel_rfl) ?_
      repeat (go_big_quiet_step (fail))
      refine wpQuiet_nil ?_
      intro w9 hw9
      obtain ⟨u9, rfl⟩ := hw9
      clear F0 F1 F2 F3 F4 G0 G1 G2 G3 G4 A0 A1 k3 heq
      have HB9 := Lib.hid (HB.out.trans (u9.h.mono hs))
      generalize u9.W = w9 at *
      go_wp2
      go_roundg (n - (k + 1))
      case rel => exact ⟨k + 1, rfl, by omega, by go_num, HB9.out⟩
      case measure => have := Hg.out; omega
    · obtain rfl : k = n := by omega
      have HBz := Lib.hid (HB0.out.trans (hB.mono hs1))
      clear hB
      go_wp2
      go_ret
      exact ⟨rfl, HBz.out⟩
end Go.Proofs.Ytpbpdgknjbjlcaa
