/- The reference's All; the pool's Clone. -/
import Derived.Test.YtafljpfephomoaaV2
import Derived.Test.YtafljpfephomoaaAp
import Derived.Test.YtafljpfephomoaaU8
import Derived.Test.YtafljpfephomoaaG
import Derived.Deep.RegionHeld3
import Derived.Lib.SliceRun
namespace Go.Proofs.Ytafljpfephomoaa
open Go.RowKit
theorem own_far {w w' : World} {base e : Nat} {v : Value} {n sz : Nat} {xs : List Value} {row : Option Nat} (h : w.ownsRow base e sz v n xs) (hg : w.grownBy w' row) (hne : ∀ g, v.ownBlock = some g → row ≠ some g) : w'.ownsRow base e sz v n xs := by
  obtain ⟨h1, h2⟩ := h
  rcases h2 with ⟨rfl, rfl⟩ | ⟨g, cap, cur, rfl, hgb, hh, r⟩
  · exact ⟨h1, .inl ⟨rfl, rfl⟩⟩
  · have hlt := (Array.getElem?_eq_some_iff.1 hh).1
    exact ⟨h1, .inr ⟨g, cap, cur, rfl, hgb, by rw [hg.block g hlt (Ne.symm (hne g rfl))]; exact hh, r⟩⟩
def hsOf (l : List (Int × Int)) : List Int := l.map (·.1)
def xsOf (l : List (Int × Int)) : List Int := l.map (·.2)
theorem hsOf_len (l : List (Int × Int)) : (hsOf l).length = l.length := by simp [hsOf]
theorem allTo_le (sl : List Slot) : ∀ k, (allTo sl k).length ≤ k := by
  intro k
  induction k with
  | zero => simp [allTo]
  | succ k ih =>
    simp only [allTo]
    split
    · split
      · rw [List.length_append]; simp; omega
      · omega
    · omega
set_option maxRecDepth 100000 in
set_option maxHeartbeats 4000000 in
theorem refall_any (r rb n : Nat) (sl : List Slot) (w : World) (hp : RefAt w r rb n sl) :
    Calls Try.prog 49 #[.pointer (some ⟨r, 0, none⟩)] w fun e w' => ∃ lv mv, e = .returned (.tuple #[lv, mv]) ∧ w'.ownsRow w.heap.size 3 1 lv (allTo sl n).length (ints (hsOf (allTo sl n))) ∧ w'.ownsRow w.heap.size 3 1 mv (allTo sl n).length (ints (xsOf (allTo sl n))) ∧ Below w.heap.size w w' := by
  have hn := hp.room
  have hr0 := hp.head.lt
  have hr1 := hp.slots.lt
  obtain ⟨i3, hi3, hz3a, hz3b, hz3c⟩ := info_parts info3
  go_enter Try.func49, Try.ntmps49
  go_wp2
  go_loopw [4, 5, 6] (fun lv mv i wr => ∃ k : Nat, k ≤ n ∧ i = .int .i64 k ∧ wr.ownsRow w.heap.size 3 1 lv (allTo sl k).length (ints (hsOf (allTo sl k))) ∧ wr.ownsRow w.heap.size 3 1 mv (allTo sl k).length (ints (xsOf (allTo sl k))) ∧ (∀ g, lv.ownBlock = some g → mv.ownBlock ≠ some g) ∧ Below w.heap.size w wr) (fun _ _ i _ => n - (intOf i).toNat)
  case atStart => exact ⟨0, Nat.zero_le _, rfl, World.ownsRow_nil _ _ _ _, World.ownsRow_nil _ _ _ _, fun g h => by simp [Value.ownBlock] at h, Below.refl _ _⟩
  case round =>
    obtain ⟨k, hk, rfl, ol, om, hap, hB⟩ := hrel
    have hpr := hp.below hB hr0 hr1
    have c0 := hpr.head.cell 0
    simp only [List.getElem?_cons_zero] at c0
    have hsz := hB.size
    by_cases hlt : k < n
    · obtain ⟨s, hs⟩ : ∃ s, sl[k]? = some s := ⟨_, List.getElem?_eq_getElem (by rw [hp.len]; exact hlt)⟩
      obtain ⟨d0, d1, d2, _, a0, a1, a2⟩ := hpr.slot hs
      have hkn : (k : Int) < (n : Int) := by omega
      have hn2 : (n : Int) ≤ 1024 := by omega
      have hle := allTo_le sl k
      cases hf : s.full with
      | false =>
        rw [hf] at d1
        have hno : allTo sl (k + 1) = allTo sl k := by simp [allTo, hs, hf]
        rw [← hno] at ol om
        clear hs hno hf
        go_wp2
        go_roundw
        case rel => exact ⟨k + 1, by omega, by go_num, ol, om, hap, hB⟩
        case measure => simp [intOf]; omega
      | true =>
        rw [hf] at d1
        have hyes : allTo sl (k + 1) = allTo sl k ++ [(s.age * 65536 + k + 1, s.what)] := by simp [allTo, hs, hf]
        have Hyes := Lib.hid hyes
        obtain ⟨age, full, what⟩ := s
        simp only at d0 d2 a0 a1 Hyes
        obtain ⟨T, hT⟩ : ∃ T, T = (allTo sl k).length := ⟨_, rfl⟩
        rw [← hT] at ol om hle
        have HT := Lib.hid hT
        have Hap := Lib.hid hap
        have hlb := fun g (e : Value.ownBlock _ = some g) => own_lt ol e
        have hmb := fun g (e : Value.ownBlock _ = some g) => own_lt om e
        have Hlb := Lib.hid hlb
        have Hmb := Lib.hid hmb
        clear hs hyes hf hT hap hlb hmb
        go_wp2_with (at_builtin; first
          | (refine wpList_append_own_at _ rfl _ _ 26 rfl w.heap.size 3 i3 (.int .i64 0) 1 8 Try.underlying26 hi3 hz3a hz3b hz3c rfl (by decide) _ T _ rfl (ol.alloc _) ⟨wr.heap.size, 0, none⟩ 1 1 [.int .i64 (age * 65536 + k + 1)] rfl rfl (cell_one_new _ _ _) (by simp [Value.oneCell']) (by unfold maxLen; omega) (by omega) (by simp; omega) ?_
             intro v4 w4 o4 hg4 _ hat4
             have B4 : Below w.heap.size w w4 := (hB.alloc hsz _).grown hg4 (by simp; omega) (fun r e => ownBlock_ge ol e)
             have hp4 := hp.below B4 hr0 hr1
             have c04 := hp4.head.cell 0
             have d24 : w4.cell? ⟨rb, k * 3 + 2, none⟩ = some (.int .i64 what) := (B4.cell (p := ⟨rb, k * 3 + 2, none⟩) hr1).trans ((hB.cell (p := ⟨rb, k * 3 + 2, none⟩) hr1).symm.trans d2)
             simp only [List.getElem?_cons_zero] at c04
             have hsz4 := B4.size
             have om4 := own_far (om.alloc _) hg4 (fun g e e2 => Hap.out g e2 e))
          | (refine wpList_append_own_at _ rfl _ _ 26 rfl w.heap.size 3 i3 (.int .i64 0) 1 8 Try.underlying26 hi3 hz3a hz3b hz3c rfl (by decide) _ T _ rfl (om4.alloc _) ⟨w4.heap.size, 0, none⟩ 1 1 [.int .i64 what] rfl rfl (cell_one_new _ _ _) (by simp [Value.oneCell']) (by unfold maxLen; omega) (by omega) (by simp; omega) ?_
             intro v5 w5 o5 hg5 _ hat5))
        have hb5 : Below w.heap.size w w5 := (B4.alloc hsz4 _).grown hg5 (by simp; omega) (fun r e => ownBlock_ge om4 e)
        have hlt4 := fun g (e : v4.ownBlock = some g) => own_lt o4 e
        have hr4 : ∀ g, v4.ownBlock = some g → _ ≠ some g := fun g e e2 => by
          rcases hat4 with h1 | h1
          · exact Hap.out g (h1.symm.trans e) e2
          · rw [h1] at e
            have := Hmb.out g e2
            simp at e
            omega
        have o45 := own_far (o4.alloc _) hg5 (fun g e e2 => hr4 g e e2)
        have hsz5 := hg4.size
        have hap5 : ∀ g, v4.ownBlock = some g → v5.ownBlock ≠ some g := fun g e e2 => by
          rcases hat5 with h1 | h1
          · exact hr4 g e (h1.symm.trans e2)
          · rw [h1] at e2
            have := hlt4 g e
            simp at e2
            omega
        go_roundw
        case rel =>
          refine ⟨k + 1, by omega, by go_num, ?_, ?_, hap5, hb5⟩
          · rw [Hyes.out, List.length_append, ← HT.out]; simpa [ints, hsOf] using o45
          · rw [Hyes.out, List.length_append, ← HT.out]; simpa [ints, xsOf] using o5
        case measure => simp [intOf]; omega
    · obtain rfl : k = n := by omega
      go_wp2
      go_ret2
      exact ⟨_, _, rfl, ol, om, hB⟩
theorem slots_one (sl : List Slot) : ∀ u ∈ slotsCells sl, u.oneCell' = true := by
  intro u hu
  unfold slotsCells at hu
  rw [List.mem_flatMap] at hu
  obtain ⟨s, _, hu⟩ := hu
  simp only [slotCells, List.mem_cons, List.not_mem_nil, or_false] at hu
  rcases hu with rfl | rfl | rfl <;> rfl
/-- slices.Clone of the places. -/
theorem sclone_any (sb n cp : Nat) (sl : List Slot) (h1 : 1 ≤ n) (h2 : n ≤ 1024) (w : World) (hr : Rd w (.slice (some ⟨sb, 0, none⟩) n cp) n 3 (slotsCells sl)) :
    Calls Try.prog 48 #[.slice (some ⟨sb, 0, none⟩) n cp] w fun e w' => ∃ g c, e = .returned (.slice (some ⟨g, 0, none⟩) n c) ∧ w'.ownsRow w.heap.size 77 3 (.slice (some ⟨g, 0, none⟩) n c) n (slotsCells sl) ∧ Below w.heap.size w w' := by
  obtain ⟨i0, hi, hz0, hz1, hz2⟩ := info_parts info77
  have hne := fun (w : World) => Lib.run_eql_slice_nil (P := Try.prog) w 70 77 (some ⟨sb, 0, none⟩) n cp 0 0 Try.underlying70
  go_enter Try.func48, Try.ntmps48
  have hmw := hr.alloc (.cells #[] 77)
  have ho : (w.alloc (.cells #[] 77)).ownsRow w.heap.size 77 3 (.slice (some ⟨w.heap.size, 0, none⟩) 0 0) 0 [] := ownsRow_blk (Blk.new w 77 []) rfl (by decide) (Nat.le_refl _)
  go_wp2_with (at_builtin; refine wpList_append_rd rfl _ _ 70 rfl w.heap.size 77 i0 (.agg #[.int .i64 0, .bool false, .int .i64 0]) 3 24 Try.underlying70 hi hz0 hz1 hz2 rfl (by decide) _ 0 [] rfl ho _ n (slotsCells sl) rfl hmw (slots_one sl) (by unfold maxLen; omega) (by omega) (by simp) ?_; intro v4 w4 o4 hg4 hat4)
  rw [List.nil_append, Nat.zero_add] at o4
  obtain ⟨g, c, rfl⟩ := own_shape o4 (by omega)
  go_ret
  exact ⟨g, c, rfl, o4, ((Below.refl _ _).alloc (Nat.le_refl _) _).grown hg4 (by simp) (fun r e => ownBlock_ge ho e)⟩
/-- What a slice of the call's own holds, room behind and all. -/
theorem own_room {w : World} {base g cp : Nat} {n : Nat} {sl : List Slot} (h : w.ownsRow base 77 3 (.slice (some ⟨g, 0, none⟩) n cp) n (slotsCells sl)) : ∃ ex, Blk w g 77 (slotsX sl ex) ∧ n ≤ cp ∧ cp ≤ 9223372036854775807 ∧ base ≤ g := by
  obtain ⟨h1, h2⟩ := h
  rcases h2 with ⟨h2, _⟩ | ⟨g', cap, cur, hv, hg, hh, hn, hm, hsz, hx⟩
  · cases h2
  · simp only [Value.slice.injEq, Option.some.injEq, Addr.mk.injEq, and_true, true_and] at hv
    obtain ⟨rfl, rfl⟩ := hv
    refine ⟨cur.toList.drop (n * 3), ?_, hn, by unfold maxLen at hm; exact hm, hg⟩
    unfold Blk slotsX
    rw [← hx, List.take_append_drop]
    simpa using hh
theorem clone_any (p sb n cp : Nat) (ex : List Value) (sl : List Slot) (many : Int) (w : World) (hp : PoolAt w p sb n cp ex sl many) :
    Calls Try.prog 35 #[.pointer (some ⟨p, 0, none⟩)] w fun e w' => ∃ p' sb' cp' ex', e = .returned (.pointer (some ⟨p', 0, none⟩)) ∧ PoolAt w' p' sb' n cp' ex' sl many ∧ Below w.heap.size w w' ∧ w.heap.size ≤ p' ∧ w.heap.size ≤ sb' := by
  have c0 := hp.head.cell 0
  have c1 := hp.head.cell 1
  simp only [List.getElem?_cons_zero, List.getElem?_cons_succ] at c0 c1
  have hlt := hp.head.lt
  have hn := hp.room
  obtain ⟨hc1, hc2⟩ := hp.cap
  have hr : Rd w (.slice (some ⟨sb, 0, none⟩) n cp) n 3 (slotsCells sl) := by
    refine ⟨_, cp, rfl, by rw [slots_len, hp.len], hc1, by unfold maxLen; exact hc2, fun _ => ⟨sb, 0, rfl, hp.slots.lt, fun i hi => ?_⟩⟩
    rw [Nat.zero_add, hp.slots.cell]
    unfold slotsX
    rw [List.getElem?_append_left (by rw [slots_len, hp.len]; exact hi)]
  go_enter Try.func35, Try.ntmps35
  go_wp2
  go_region_held3 (fun wx => wx.cell? ⟨p, 0, none⟩ = some (.slice (some ⟨sb, 0, none⟩) n cp) ∧ wx.cell? ⟨p, 1, none⟩ = some (.int .i64 many))
    (first | go_keep | exact ⟨(B4.cell (p := ⟨p, 0, none⟩) hlt).trans c0, (B4.cell (p := ⟨p, 1, none⟩) hlt).trans c1⟩)
    ((go_at_call 48; refine (sclone_any sb n cp sl hn.1 hn.2 _ hr.drew).mono ?_; rintro e w4 ⟨g, c, rfl, o4, B4⟩))
  all_goals
    go_wp2
    go_ret
    obtain ⟨ex', hb, q1, q2, q3⟩ := own_room o4
    have B5 : Below w.heap.size w w4 := ((Below.refl _ w).drew).trans (B4.mono (by simp))
    have hs5 := B5.size
    refine ⟨w4.heap.size, g, c, ex', rfl, ⟨hp.len, ?_, hb.alloc _, ?_, hp.room, hp.ages, hp.many, q1, q2⟩, B5.alloc hs5 _, hs5, by simpa using q3⟩
    · exact Blk.new w4 72 [_, _]
    · have := hb.lt; omega
end Go.Proofs.Ytafljpfephomoaa
