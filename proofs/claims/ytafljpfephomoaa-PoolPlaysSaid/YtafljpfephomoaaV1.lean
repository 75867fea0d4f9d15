/- The reference's pool: its walks. -/
import Derived.Test.YtafljpfephomoaaU9
import Derived.Test.YtafljpfephomoaaU7
import Derived.Test.YtafljpfephomoaaOw
import Derived.Deep.QuietTactic
import Derived.BigQuiet
import Derived.RegionTactic
import Derived.BigRegion
import Derived.StillTailTactics
namespace Go.Proofs.Ytafljpfephomoaa
open Go.RowKit
/-- The reference's pool at r, its places in block rb. -/
structure RefAt (w : World) (r rb n : Nat) (sl : List Slot) : Prop where
  len : sl.length = n
  head : Blk w r 86 [.slice (some ⟨rb, 0, none⟩) n n]
  slots : Blk w rb 88 (slotsCells sl)
  room : 1 ≤ n ∧ n ≤ 1024
  ages : ∀ s ∈ sl, 0 ≤ s.age ∧ s.age ≤ 1073741825 ∧ (s.full = true → s.age ≤ 1073741824)
def Rl (r rb : Nat) (k : Nat) : Prop := k = r ∨ k = rb
theorem blk_type_ne {w : World} {b c : Nat} {t u : TypeId} {xs ys : List Value} (h : Blk w b t xs) (k : Blk w c u ys) (htu : t ≠ u) : b ≠ c := by
  rintro rfl
  unfold Blk at h k
  rw [h] at k
  simp at k
  exact htu k.2
theorem RefAt.ne {w : World} {r rb n : Nat} {sl : List Slot} (h : RefAt w r rb n sl) : r ≠ rb := blk_type_ne h.head h.slots (by decide)
theorem RefAt.mod {S : Nat → Prop} {w w' : World} {r rb n : Nat} {sl : List Slot} (h : RefAt w r rb n sl) (hm : Mod S w w') (h1 : ¬ S r) (h2 : ¬ S rb) : RefAt w' r rb n sl :=
  ⟨h.len, h.head.mod hm h1, h.slots.mod hm h2, h.room, h.ages⟩
theorem RefAt.below {B : Nat} {w w' : World} {r rb n : Nat} {sl : List Slot} (h : RefAt w r rb n sl) (hm : Below B w w') (h1 : r < B) (h2 : rb < B) : RefAt w' r rb n sl :=
  ⟨h.len, h.head.below hm h1, h.slots.below hm h2, h.room, h.ages⟩
theorem RefAt.drewN {w : World} {r rb n : Nat} {sl : List Slot} (h : RefAt w r rb n sl) (j : Nat) : RefAt (w.drewN j) r rb n sl := ⟨h.len, h.head, h.slots, h.room, h.ages⟩
theorem RefAt.slot {w : World} {r rb n : Nat} {sl : List Slot} (hp : RefAt w r rb n sl) {k : Nat} {s : Slot} (h : sl[k]? = some s) :
    w.cell? ⟨rb, k * 3, none⟩ = some (.int .i64 s.age) ∧ w.cell? ⟨rb, k * 3 + 1, none⟩ = some (.bool s.full) ∧ w.cell? ⟨rb, k * 3 + 2, none⟩ = some (.int .i64 s.what) ∧ k < n ∧ 0 ≤ s.age ∧ s.age ≤ 1073741825 ∧ (s.full = true → s.age ≤ 1073741824) := by
  obtain ⟨g0, g1, g2⟩ := slots_get h
  have hk : k < n := by rw [← hp.len]; exact (List.getElem?_eq_some_iff.1 h).1
  exact ⟨(hp.slots.cell _).trans g0, (hp.slots.cell _).trans g1, (hp.slots.cell _).trans g2, hk, hp.ages s (List.mem_of_getElem? h)⟩
theorem RefAt.set {w w' : World} {r rb n : Nat} {sl : List Slot} (hp : RefAt w r rb n sl) {k : Nat} {s : Slot}
    (hs : 0 ≤ s.age ∧ s.age ≤ 1073741825 ∧ (s.full = true → s.age ≤ 1073741824)) (h1 : Blk w' r 86 [.slice (some ⟨rb, 0, none⟩) n n]) (h2 : Blk w' rb 88 (slotsCells (sl.set k s))) : RefAt w' r rb n (sl.set k s) := by
  refine ⟨by simpa using hp.len, h1, h2, hp.room, fun x hx => ?_⟩
  rcases List.mem_or_eq_of_mem_set hx with hx | rfl
  · exact hp.ages x hx
  · exact hs
theorem refnew_bad (room : Int) (w : World) (h : room < 1 ∨ 1024 < room) :
    Calls Try.prog 29 #[.int .i64 room] w fun e w' => e = .returned (.tuple #[.pointer none, .int .i64 1]) ∧ w = w' := by
  by_cases h1 : room < 1
  · go_enter Try.func29, Try.ntmps29
    go_wp2
    go_ret2
    exact ⟨rfl, rfl⟩
  · have h2 : 1024 < room := by omega
    clear h
    go_enter Try.func29, Try.ntmps29
    go_wp2
    go_ret2
    exact ⟨rfl, rfl⟩
theorem info88 : (Try.prog.info? 88).map (fun i => (i.zero, i.size, i.bytes)) = some (some (.agg #[.int .i64 0, .bool false, .int .i64 0]), 3, 24) := by kernel_rfl
theorem refnew_ok (room : Int) (n : Nat) (hn : room = (n : Int)) (w : World) (h1 : 1 ≤ n) (h2 : n ≤ 1024) :
    Calls Try.prog 29 #[.int .i64 room] w fun e w' => ∃ p sb, e = .returned (.tuple #[.pointer (some ⟨p, 0, none⟩), .int .i64 0]) ∧ RefAt w' p sb n (List.replicate n noSlot) ∧ Below w.heap.size w w' ∧ w.heap.size ≤ p ∧ w.heap.size ≤ sb := by
  subst hn
  obtain ⟨i0, hi, hz0, hz1, hz2⟩ := info_parts info88
  have n1 : (1 : Int) ≤ (n : Int) := by omega
  have n2 : (n : Int) ≤ 1024 := by omega
  go_enter Try.func29, Try.ntmps29
  go_wp2_with (at_make; refine wpList_make_full _ rfl _ _ 84 rfl w.heap.size 88 i0 (.agg #[.int .i64 0, .bool false, .int .i64 0]) 3 Try.underlying84 hi hz0 hz1 .i64 .i64 _ _ n rfl rfl rfl rfl (by rw [hz2]; omega) (by unfold maxLen; omega) (Nat.le_refl _) ?_; intro w1 hown1 hg1)
  have hs := own_blk hown1
  rw [made_slots] at hs
  have hB := ((Below.refl w.heap.size w).grown hg1 (Nat.le_refl _) (by simp))
  have hlt := hs.lt
  go_ret2
  refine ⟨w1.heap.size, w.heap.size, rfl, ⟨by simp, ?_, hs.alloc _, ⟨h1, h2⟩, ?_⟩, hB.alloc hB.size _, hB.size, Nat.le_refl _⟩
  · exact Blk.new w1 86 [_]
  · intro s hs
    rw [List.mem_replicate] at hs
    rw [hs.2]; simp [noSlot]
def placeN (sl : List Slot) (h : Int) : Int := match atN sl h with | some k => (k : Int) | none => -1
theorem atN_of {sl : List Slot} {h : Int} {k : Nat} (e : atN sl h = some k) : ∃ s, sl[k]? = some s ∧ s.full = true ∧ hOf s.age k = h := by
  obtain ⟨s, hs, hf, ha, hm, h1⟩ := atN_some e
  refine ⟨s, hs, hf, ?_⟩
  unfold hOf
  rw [ha]
  omega
set_option maxHeartbeats 1000000 in
theorem place_any (h : Int) (r rb n : Nat) (sl : List Slot) (w : World) (hp : RefAt w r rb n sl) :
    Calls Try.prog 47 #[.pointer (some ⟨r, 0, none⟩), .int .i64 h] w fun e w' => e = .returned (.int .i64 (placeN sl h)) ∧ w = w' := by
  have c0 := hp.head.cell 0
  simp only [List.getElem?_cons_zero] at c0
  have hn := hp.room
  go_enter Try.func47, Try.ntmps47
  go_wp2
  go_loop [5] (fun i => ∃ k : Nat, k ≤ n ∧ i = .int .i64 k ∧ Hid (∀ j s, j < k → sl[j]? = some s → s.full = true → hOf s.age j ≠ h)) (fun i => n - (intOf i).toNat)
  case atStart => exact ⟨0, Nat.zero_le _, rfl, Lib.hid (fun j s hj => by omega)⟩
  case round =>
    obtain ⟨k, hk, rfl, hno⟩ := hrel
    by_cases hlt : k < n
    · obtain ⟨s, hs⟩ : ∃ s, sl[k]? = some s := ⟨_, List.getElem?_eq_getElem (by rw [hp.len]; exact hlt)⟩
      obtain ⟨d0, d1, d2, _, a0, a1, a2⟩ := hp.slot hs
      have hkn : (k : Int) < (n : Int) := by omega
      have hn2 : (n : Int) ≤ 1024 := by omega
      have hnext : ∀ (_ : s.full = true → hOf s.age k ≠ h), ∀ j s, j < k + 1 → sl[j]? = some s → s.full = true → hOf s.age j ≠ h := by
        intro hq j s' hj hs' hf'
        rcases Nat.lt_or_ge j k with h1 | h1
        · exact hno j s' h1 hs' hf'
        · obtain rfl : j = k := by omega
          rw [hs] at hs'
          obtain rfl := Option.some.inj hs'
          exact hq hf'
      have Hnext := Lib.hid hnext
      have Hs := Lib.hid hs
      clear hs hnext
      obtain ⟨age, full, what⟩ := s
      simp only at d0 d1 a0 a1
      cases full with
      | false =>
        go_wp2
        go_round
        case rel => exact ⟨k + 1, by omega, by go_num, Lib.hid (Hnext.out (fun e => by cases e))⟩
        case measure => simp [intOf]; omega
      | true =>
        by_cases e : age * 65536 + k + 1 = h
        · have e1 : (age * 65536 + (k : Int) + 1 == h) = true := by simpa using e
          have hfin : placeN sl h = k := by
            have := atN_hOf (sl := sl) (j := k) (by omega) a0 Hs.out
            unfold placeN
            rw [← e, show age * 65536 + (k : Int) + 1 = hOf age k from rfl, this]
            simp
          have Hfin := Lib.hid hfin
          clear hfin e
          go_wp2
          go_ret
          exact ⟨ret_int Hfin.out.symm, rfl⟩
        · have e1 : (age * 65536 + (k : Int) + 1 == h) = false := by simpa using e
          have He := Lib.hid e
          clear e
          go_wp2
          go_round
          case rel => exact ⟨k + 1, by omega, by go_num, Lib.hid (Hnext.out (fun _ => He.out))⟩
          case measure => simp [intOf]; omega
    · obtain rfl : k = n := by omega
      have hfin : placeN sl h = -1 := by
        unfold placeN
        cases hat : atN sl h with
        | none => rfl
        | some k2 =>
          obtain ⟨s, hs, hf, e⟩ := atN_of hat
          exact (hno k2 s (by rw [← hp.len]; exact (List.getElem?_eq_some_iff.1 hs).1) hs hf e).elim
      have Hfin := Lib.hid hfin
      clear hfin
      go_wp2
      go_ret
      exact ⟨ret_int Hfin.out.symm, rfl⟩
theorem refget_any (h : Int) (r rb n : Nat) (sl : List Slot) (w : World) (hp : RefAt w r rb n sl) :
    Calls Try.prog 31 #[.pointer (some ⟨r, 0, none⟩), .int .i64 h] w fun e w' => e = .returned (.tuple #[.int .i64 (getN sl h).1, .bool (getN sl h).2]) ∧ w = w' := by
  have hc := place_any h r rb n sl w hp
  have c0 := hp.head.cell 0
  simp only [List.getElem?_cons_zero] at c0
  unfold placeN at hc
  cases hat : atN sl h with
  | none =>
    have hfin : getN sl h = (0, false) := by simp [getN, hat]
    have Hfin := Lib.hid hfin
    rw [hat] at hc
    clear hfin hat
    go_enter Try.func31, Try.ntmps31
    go_wp2_with fail
    refine hc.mono ?_
    rintro e w' ⟨rfl, rfl⟩
    simp only
    go_wp2
    go_ret2
    exact ⟨by rw [Hfin.out]; rfl, rfl⟩
  | some k =>
    obtain ⟨s, hs, hf, ha, hm, h1⟩ := atN_some hat
    obtain ⟨d0, d1, d2, hk, _⟩ := hp.slot hs
    have hfin : getN sl h = (s.what, true) := by simp [getN, hat, hs]
    have Hfin := Lib.hid hfin
    rw [hat] at hc
    have hkn : (k : Int) < (n : Int) := by omega
    clear hfin hat hs hf ha hm
    go_enter Try.func31, Try.ntmps31
    go_wp2_with fail
    refine hc.mono ?_
    rintro e w' ⟨rfl, rfl⟩
    simp only
    go_wp2
    go_ret2
    exact ⟨by rw [Hfin.out]; rfl, rfl⟩
theorem refset_none (h x : Int) (r rb n : Nat) (sl : List Slot) (w : World) (hp : RefAt w r rb n sl) (hat : atN sl h = none) :
    Calls Try.prog 33 #[.pointer (some ⟨r, 0, none⟩), .int .i64 h, .int .i64 x] w fun e w' => e = .returned (.bool false) ∧ w = w' := by
  have hc := place_any h r rb n sl w hp
  unfold placeN at hc
  rw [hat] at hc
  clear hat
  go_enter Try.func33, Try.ntmps33
  go_wp2_with fail
  refine hc.mono ?_
  rintro e w' ⟨rfl, rfl⟩
  simp only
  go_wp2
  go_ret
  exact ⟨rfl, rfl⟩
theorem refdrop_none (h : Int) (r rb n : Nat) (sl : List Slot) (w : World) (hp : RefAt w r rb n sl) (hat : atN sl h = none) :
    Calls Try.prog 34 #[.pointer (some ⟨r, 0, none⟩), .int .i64 h] w fun e w' => e = .returned (.bool false) ∧ w = w' := by
  have hc := place_any h r rb n sl w hp
  unfold placeN at hc
  rw [hat] at hc
  clear hat
  go_enter Try.func34, Try.ntmps34
  go_wp2_with fail
  refine hc.mono ?_
  rintro e w' ⟨rfl, rfl⟩
  simp only
  go_wp2
  go_ret
  exact ⟨rfl, rfl⟩
theorem refset_some (h x : Int) (r rb n k : Nat) (sl : List Slot) (w : World) (hp : RefAt w r rb n sl) (s : Slot) (hat : atN sl h = some k) (hs : sl[k]? = some s) :
    Calls Try.prog 33 #[.pointer (some ⟨r, 0, none⟩), .int .i64 h, .int .i64 x] w fun e w' => e = .returned (.bool true) ∧ RefAt w' r rb n (sl.set k ⟨s.age, true, x⟩) ∧ Mod (Rl r rb) w w' := by
  have hc := place_any h r rb n sl w hp
  unfold placeN at hc
  obtain ⟨s', hs', hf, ha, hm, h1⟩ := atN_some hat
  obtain rfl : s' = s := by rw [hs] at hs'; exact (Option.some.inj hs').symm
  rw [hat] at hc
  obtain ⟨d0, d1, d2, hk, a0, a1, a2⟩ := hp.slot hs
  have c0 := hp.head.cell 0
  simp only [List.getElem?_cons_zero] at c0
  have f2 := hp.slots.frozen (k * 3 + 2)
  have a2' := a2 hf
  have hkn : (k : Int) < (n : Int) := by omega
  have hfin : ∀ w' : World, Blk w' r 86 [.slice (some ⟨rb, 0, none⟩) n n] → Blk w' rb 88 (slotsCells (sl.set k ⟨s'.age, true, x⟩)) → RefAt w' r rb n (sl.set k ⟨s'.age, true, x⟩) :=
    fun w' b1 b2 => hp.set ⟨by simp only; omega, by simp only; omega, fun _ => by simp only; omega⟩ b1 b2
  have b2 := hp.slots.set (k * 3 + 2) (.int .i64 x)
  have e0 := slots_set sl k ⟨s'.age, true, x⟩ (by rw [hp.len]; exact hk)
  obtain ⟨g0, g1, g2⟩ := slots_get hs
  rw [hf] at g1
  have e1 : (slotsCells sl).set (k * 3) (.int .i64 s'.age) = slotsCells sl := list_set_self g0
  have e2 : (slotsCells sl).set (k * 3 + 1) (.bool true) = slotsCells sl := list_set_self g1
  simp only at e0
  rw [e1, e2] at e0
  rw [e0] at b2
  have hne := hp.ne
  have hhd := hp.head
  obtain ⟨age, full, what⟩ := s'
  simp only at *
  clear hs hs' hat ha hm a2 e0 e1 e2 g0 g1 g2 hf
  have Hfin := Lib.hid hfin
  clear hfin
  go_enter Try.func33, Try.ntmps33
  go_wp2_with fail
  refine hc.mono ?_
  rintro e w' ⟨rfl, rfl⟩
  simp only
  go_wp2
  go_ret
  refine ⟨rfl, Hfin.out _ ?_ b2, ?_⟩
  · exact hhd.setCell_ne (p := ⟨rb, k * 3 + 2, none⟩) hne _
  · exact (Mod.refl _ _).setCell (p := ⟨rb, k * 3 + 2, none⟩) (fun _ => .inr rfl) _
set_option maxHeartbeats 2000000 in
theorem refdrop_some (h : Int) (r rb n k : Nat) (sl : List Slot) (w : World) (hp : RefAt w r rb n sl) (s : Slot) (hat : atN sl h = some k) (hs : sl[k]? = some s) :
    Calls Try.prog 34 #[.pointer (some ⟨r, 0, none⟩), .int .i64 h] w fun e w' => e = .returned (.bool true) ∧ RefAt w' r rb n (sl.set k ⟨s.age + 1, false, 0⟩) ∧ Mod (Rl r rb) w w' := by
  have hc := place_any h r rb n sl w hp
  unfold placeN at hc
  obtain ⟨s', hs', hf, ha, hm, h1⟩ := atN_some hat
  obtain rfl : s' = s := by rw [hs] at hs'; exact (Option.some.inj hs').symm
  rw [hat] at hc
  obtain ⟨d0, d1, d2, hk, a0, a1, a2⟩ := hp.slot hs
  have c0 := hp.head.cell 0
  simp only [List.getElem?_cons_zero] at c0
  have f0 := hp.slots.frozen (k * 3)
  have f1 := hp.slots.frozen (k * 3 + 1)
  have f2 := hp.slots.frozen (k * 3 + 2)
  have a2' := a2 hf
  have hkn : (k : Int) < (n : Int) := by omega
  have hfin : ∀ w' : World, Blk w' r 86 [.slice (some ⟨rb, 0, none⟩) n n] → Blk w' rb 88 (slotsCells (sl.set k ⟨s'.age + 1, false, 0⟩)) → RefAt w' r rb n (sl.set k ⟨s'.age + 1, false, 0⟩) :=
    fun w' b1 b2 => hp.set ⟨by simp only; omega, by simp only; omega, fun h => by cases h⟩ b1 b2
  have b0 := hp.slots.set (k * 3) (.int .i64 (s'.age + 1))
  have b1 := b0.set (k * 3 + 1) (.bool false)
  have b2 := b1.set (k * 3 + 2) (.int .i64 0)
  have e0 := slots_set sl k ⟨s'.age + 1, false, 0⟩ (by rw [hp.len]; exact hk)
  simp only at e0
  rw [e0] at b2
  have hne := hp.ne
  have hhd := hp.head
  obtain ⟨age, full, what⟩ := s'
  simp only at *
  clear hs hs' hat ha hm a2 b0 b1 e0 hf
  have Hfin := Lib.hid hfin
  clear hfin
  go_enter Try.func34, Try.ntmps34
  go_wp2_with fail
  refine hc.mono ?_
  rintro e w' ⟨rfl, rfl⟩
  simp only
  go_wp2
  go_region
  go_wp2
  go_ret
  refine ⟨rfl, Hfin.out _ ?_ b2.drew, ?_⟩
  · exact (((hhd.setCell_ne (p := ⟨rb, k * 3, none⟩) hne _).setCell_ne (p := ⟨rb, k * 3 + 1, none⟩) hne _).setCell_ne (p := ⟨rb, k * 3 + 2, none⟩) hne _).drew
  · exact ((((Mod.refl _ _).setCell (p := ⟨rb, k * 3, none⟩) (fun _ => .inr rfl) _).setCell (p := ⟨rb, k * 3 + 1, none⟩) (fun _ => .inr rfl) _).setCell (p := ⟨rb, k * 3 + 2, none⟩) (fun _ => .inr rfl) _).drew
end Go.Proofs.Ytafljpfephomoaa
