/- Snap: the tape on which a world's numbers are laid. -/
import Derived.Test.YtlcmjpligaiadaaSf
import Derived.Test.YtlcmjpligaiadaaE5
namespace Go.Proofs.Ytlcmjpligaiadaa
open Go.RowKit
/-- A tape that is written, in block t, its slice v with m numbers L. -/
def Tape (w : World) (t : Nat) (v : Value) (m : Nat) (L : List Int) : Prop := Blk w t 172 [v, .bool false, .bool false] ∧ w.ownsRow (t + 1) 3 1 v m (ints L)
theorem info3t : (Try.prog.info? 3).map (fun i => (i.zero, i.size, i.bytes)) = some (some (.int .i64 0), 1, 8) := by kernel_rfl
def NumT (t : Nat) (v : Value) (m : Nat) (L : List Int) (x : Int) (w : World) (e : Ending) (w' : World) : Prop :=
  e = .returned (.tuple #[]) ∧ ∃ v', Tape w' t v' (m + 1) (L ++ [x]) ∧ Mod (fun j => j = t ∨ v.ownBlock = some j) w w'
set_option maxRecDepth 100000 in
set_option maxHeartbeats 2000000 in
theorem num_any (t : Nat) (v : Value) (m : Nat) (L : List Int) (hm : m ≤ 4000) (pb po : Nat) (x a b : Int) (w : World) (hT : Tape w t v m L) (hx : w.cell? ⟨pb, po, none⟩ = some (.int .i64 x)) :
    Calls Try.prog 95 #[.pointer (some ⟨t, 0, none⟩), .pointer (some ⟨pb, po, none⟩), .int .i64 a, .int .i64 b] w (NumT t v m L x w) := by
  obtain ⟨ht, hown⟩ := hT
  obtain ⟨i0, hi, hz0, hz1, hz2⟩ := info_parts info3t
  have c0 := ht.cell 0
  have c1 := ht.cell 1
  have k0 := ht.frozen 0
  simp only [List.getElem?_cons_zero, List.getElem?_cons_succ] at c0 c1
  have htl := ht.lt
  obtain ⟨va, vc, rfl, v1, v2⟩ := (Rd.of_own hown).shape
  go_enter Try.func95, Try.ntmps95
  go_wp2
  go_region_law (refine step_append_lies _ (by rfl) _ _ _ (by rfl) (t + 1) 3 i0 (.int .i64 0) 1 8 Try.underlying22 hi hz0 hz1 hz2 rfl (by decide) _ m (ints L) (by rfl) ((hown.alloc _).drew) ⟨w.heap.size, 0, none⟩ 1 1 [.int .i64 x] (by rfl) (by rfl) (cell_one_new _ _ _) (by simp [Value.oneCell']) (by omega) (by unfold maxLen; omega) (by omega) (by simp; omega) (w.heap.size + 1) (by simp) ?_
                 intro gg cap w6 o6 g6 hat6 hlt6
                 have ho6 := ((ht.alloc (.cells #[.int .i64 x] 3)).drew).grown g6 (own_ne ((hown.alloc (.cells #[.int .i64 x] 3)).drew) ((ht.alloc _).drew) (by decide))
                 have c6 := ho6.cell 0
                 have k6 := ho6.frozen 0
                 simp only [List.getElem?_cons_zero] at c6)
  all_goals
    have M6 : Mod (fun j => j = t ∨ (Value.slice va m vc).ownBlock = some j) w w6 := (((Mod.refl _ w).alloc (.cells #[.int .i64 x] 3)).drew).grown g6 (fun k hk _ => .inr hk)
    have hvo := own_ne o6 ho6 (by decide)
    go_wp2
    refine bodyPost_ret (v := .tuple #[]) (by simp [results, Try.f95, go_sem]) rfl ⟨rfl, _, ⟨ho6.set 0 _, ?_⟩, M6.setCell (fun _ => .inl rfl) _⟩
    have o7 := ownsRow_setCell_other (a := ⟨t, 0, none⟩) o6 hvo (Value.slice (some ⟨gg, 0, none⟩) (m + 1) cap)
    simpa [ints] using o7
theorem Tape.lt {w : World} {t m : Nat} {v : Value} {L : List Int} (h : Tape w t v m L) : t < w.heap.size := h.1.lt
theorem Tape.row {w : World} {t m : Nat} {v : Value} {L : List Int} (h : Tape w t v m L) {j : Nat} (hj : v.ownBlock = some j) : t < j := ownBlock_ge h.2 hj
theorem Tape.below {w w' : World} {t m : Nat} {v : Value} {L : List Int} (h : Tape w t v m L) (hM : Mod (fun j => j = t ∨ v.ownBlock = some j) w w') : Below t w w' :=
  hM.below (by have := h.lt; omega) (fun k hk hS => by
    rcases hS with rfl | hS
    · omega
    · have := h.row hS; omega)
theorem Tape.off {w w' : World} {t m : Nat} {v : Value} {L : List Int} (h : Tape w t v m L) (hM : Mod (fun j => j = t ∨ v.ownBlock = some j) w w') {sb : Nat} {ty : TypeId} {vs : List Value} (hb : Blk w sb ty vs) (h1 : ty ≠ 172) (h2 : ty ≠ 3) : Blk w' sb ty vs :=
  hb.mod hM (fun hS => by
    rcases hS with rfl | hS
    · have e1 := h.1
      unfold Blk at e1 hb
      rw [e1] at hb
      simp at hb
      exact h1 hb.2.symm
    · exact own_ne h.2 hb h2 hS)
theorem Tape.new {w w' : World} {t m : Nat} {v : Value} {L : List Int} (h : Tape w t v m L) (hB : Below w.heap.size w w') : Tape w' t v m L := ⟨h.1.below hB h.lt, own_new h.2 hB⟩
/-- Blocks that are no tape and no row of numbers are as they were. -/
def Keep (w w' : World) : Prop := ∀ (b : Nat) (ty : TypeId) (vs : List Value), ty ≠ 172 → ty ≠ 3 → Blk w b ty vs → Blk w' b ty vs
theorem Keep.refl (w : World) : Keep w w := fun _ _ _ _ _ h => h
theorem Keep.trans {a b c : World} (h : Keep a b) (k : Keep b c) : Keep a c := fun x ty vs h1 h2 h3 => k x ty vs h1 h2 (h x ty vs h1 h2 h3)
theorem Keep.of_below {w w' : World} (h : Below w.heap.size w w') : Keep w w' := fun _ _ _ _ _ h3 => h3.below h h3.lt
theorem Tape.keep {w w' : World} {t m : Nat} {v : Value} {L : List Int} (h : Tape w t v m L) (hM : Mod (fun j => j = t ∨ v.ownBlock = some j) w w') : Keep w w' := fun _ _ _ h1 h2 h3 => h.off hM h3 h1 h2
def NumsT (t m : Nat) (L : List Int) (w : World) (e : Ending) (w' : World) : Prop :=
  e = .returned (.tuple #[]) ∧ ∃ v', Tape w' t v' m L ∧ Below t w w' ∧ Keep w w'
set_option maxRecDepth 100000 in
set_option maxHeartbeats 2000000 in
theorem nums_any (t : Nat) (v : Value) (m : Nat) (L : List Int) (hm : m ≤ 3000) (sb pb po : Nat) (hpb : pb < t) (x0 x1 x2 : Int) (w : World) (hT : Tape w t v m L)
    (hs : Blk w sb 187 [.pointer (some ⟨pb, po, none⟩), .pointer (some ⟨pb, po + 1, none⟩), .pointer (some ⟨pb, po + 2, none⟩)])
    (y0 : w.cell? ⟨pb, po, none⟩ = some (.int .i64 x0)) (y1 : w.cell? ⟨pb, po + 1, none⟩ = some (.int .i64 x1)) (y2 : w.cell? ⟨pb, po + 2, none⟩ = some (.int .i64 x2)) :
    Calls Try.prog 99 #[.pointer (some ⟨t, 0, none⟩), .slice (some ⟨sb, 0, none⟩) 3 3] w (NumsT t (m + 3) (L ++ [x0, x1, x2]) w) := by
  have hpw : pb < w.heap.size := by have := hT.lt; omega
  go_enter Try.func99, Try.ntmps99
  go_wp2
  go_loopw [8] (fun i wr => ∃ (k : Nat) (v : Value), k ≤ 3 ∧ i = .int .i64 k ∧ Tape wr t v (m + k) (L ++ [x0, x1, x2].take k) ∧ Blk wr sb 187 [.pointer (some ⟨pb, po, none⟩), .pointer (some ⟨pb, po + 1, none⟩), .pointer (some ⟨pb, po + 2, none⟩)] ∧ Below t w wr ∧ Keep w wr) (fun i _ => 3 - (intOf i).toNat)
  case atStart => exact ⟨0, v, by omega, rfl, by simpa using hT, hs, Below.refl _ _, Keep.refl _⟩
  case round =>
    clear hT hs
    obtain ⟨k, v, hk, rfl, hT, hs, hB, hK⟩ := hrel
    have z0 := (hB.cell (p := ⟨pb, po, none⟩) hpb).trans y0
    have z1 := (hB.cell (p := ⟨pb, po + 1, none⟩) hpb).trans y1
    have z2 := (hB.cell (p := ⟨pb, po + 2, none⟩) hpb).trans y2
    have s0 := hs.cell 0
    have s1 := hs.cell 1
    have s2 := hs.cell 2
    simp only [List.getElem?_cons_zero, List.getElem?_cons_succ] at s0 s1 s2
    obtain rfl | rfl | rfl | rfl : k = 0 ∨ k = 1 ∨ k = 2 ∨ k = 3 := by omega
    · go_wp2_with fail
      refine (num_any t v _ _ (by omega) pb po x0 _ _ wr hT z0).mono ?_
      rintro e w1 ⟨rfl, v1, hT1, hM⟩
      have hs1 := hT.off hM hs (by decide) (by decide)
      have hB1 := hB.trans (hT.below hM)
      go_wp2
      go_roundw
      case rel => exact ⟨1, v1, by omega, rfl, by simpa using hT1, hs1, hB1, hK.trans (hT.keep hM)⟩
      case measure => simp [intOf]
    · go_wp2_with fail
      refine (num_any t v _ _ (by omega) pb (po + 1) x1 _ _ wr hT z1).mono ?_
      rintro e w1 ⟨rfl, v1, hT1, hM⟩
      have hs1 := hT.off hM hs (by decide) (by decide)
      have hB1 := hB.trans (hT.below hM)
      go_wp2
      go_roundw
      case rel => exact ⟨2, v1, by omega, rfl, by simpa using hT1, hs1, hB1, hK.trans (hT.keep hM)⟩
      case measure => simp [intOf]
    · go_wp2_with fail
      refine (num_any t v _ _ (by omega) pb (po + 2) x2 _ _ wr hT z2).mono ?_
      rintro e w1 ⟨rfl, v1, hT1, hM⟩
      have hs1 := hT.off hM hs (by decide) (by decide)
      have hB1 := hB.trans (hT.below hM)
      go_wp2
      go_roundw
      case rel => exact ⟨3, v1, by omega, rfl, by simpa using hT1, hs1, hB1, hK.trans (hT.keep hM)⟩
      case measure => simp [intOf]
    · go_wp2
      exact bodyPost_ret (v := .tuple #[]) (by simp [results, Try.f99, go_sem]) rfl ⟨rfl, v, by simpa using hT, hB, hK⟩
end Go.Proofs.Ytlcmjpligaiadaa
