/- The reference's pool, on: Lay, Put, All. -/
import Derived.Test.YtafljpfephomoaaV1
import Derived.Deep.AppendLies
namespace Go.Proofs.Ytafljpfephomoaa
open Go.RowKit
set_option maxHeartbeats 2000000 in
theorem reflay_none (h x : Int) (r rb n : Nat) (sl : List Slot) (w : World) (hp : RefAt w r rb n sl) (hh : In64 h) (hat : layN sl h = none) :
    Calls Try.prog 30 #[.pointer (some ⟨r, 0, none⟩), .int .i64 h, .int .i64 x] w fun e w' => e = .returned (.bool false) ∧ w = w' := by
  obtain ⟨h1, h2⟩ := hh
  have c0 := hp.head.cell 0
  simp only [List.getElem?_cons_zero] at c0
  have hn := hp.room
  by_cases a1 : h < 1
  · clear hat
    go_enter Try.func30, Try.ntmps30
    go_wp2
    go_ret
    exact ⟨rfl, rfl⟩
  · have a1' : 1 ≤ h := by omega
    obtain ⟨k, hk⟩ : ∃ k : Nat, h % 65536 = (k : Int) := ⟨(h % 65536).toNat, by omega⟩
    obtain ⟨g, hg⟩ : ∃ g : Int, h / 65536 = g := ⟨_, rfl⟩
    by_cases a2 : k = 0
    · subst a2
      have hk' : h % 65536 < 1 := by omega
      clear hat hk hg
      go_enter Try.func30, Try.ntmps30
      go_wp2
      go_ret
      exact ⟨rfl, rfl⟩
    · obtain ⟨k, rfl⟩ : ∃ j, k = j + 1 := ⟨k - 1, by omega⟩
      have hkt : (h % 65536 - 1).toNat = k := by omega
      have hk1 : h % 65536 = (k : Int) + 1 := by omega
      by_cases a3 : k < n
      · obtain ⟨s, hs⟩ : ∃ s, sl[k]? = some s := ⟨_, List.getElem?_eq_getElem (by rw [hp.len]; exact a3)⟩
        obtain ⟨d0, d1, d2, _⟩ := hp.slot hs
        have hkn : (k : Int) < (n : Int) := by omega
        by_cases a4 : 1073741824 < g
        · clear hat hk hkt hs d0 d1 d2
          go_enter Try.func30, Try.ntmps30
          go_wp2
          go_ret
          exact ⟨rfl, rfl⟩
        · obtain ⟨age, full, what⟩ := s
          simp only at d0 d1 d2
          have hor : full = true ∨ g < age := by
            unfold layN at hat
            rw [if_neg a1, if_neg (by omega), if_neg (by omega), hkt, hs, hg] at hat
            simp only at hat
            split at hat
            · assumption
            · cases hat
          clear hat hk hkt hs
          cases full with
          | true =>
            clear hor
            go_enter Try.func30, Try.ntmps30
            go_wp2
            go_ret
            exact ⟨rfl, rfl⟩
          | false =>
            have hga : g < age := by rcases hor with h | h; cases h; exact h
            clear hor
            go_enter Try.func30, Try.ntmps30
            go_wp2
            go_ret
            exact ⟨rfl, rfl⟩
      · have hkn : ¬ (k : Int) < (n : Int) := by omega
        clear hat hk hkt hg
        go_enter Try.func30, Try.ntmps30
        go_wp2
        go_ret
        exact ⟨rfl, rfl⟩
set_option maxHeartbeats 2000000 in
theorem reflay_some (h x : Int) (r rb n k : Nat) (sl : List Slot) (w : World) (hp : RefAt w r rb n sl) (hh : In64 h) (hat : layN sl h = some k) :
    Calls Try.prog 30 #[.pointer (some ⟨r, 0, none⟩), .int .i64 h, .int .i64 x] w fun e w' => e = .returned (.bool true) ∧ RefAt w' r rb n (sl.set k ⟨h / 65536, true, x⟩) ∧ Mod (Rl r rb) w w' := by
  obtain ⟨s', hs, hf, ha, hg0, hm, h1⟩ := layN_some hat
  obtain ⟨d0, d1, d2, hk, a0, a1, a2⟩ := hp.slot hs
  obtain ⟨hh1, hh2⟩ := hh
  have hn := hp.room
  have c0 := hp.head.cell 0
  simp only [List.getElem?_cons_zero] at c0
  have f0 := hp.slots.frozen (k * 3)
  have f1 := hp.slots.frozen (k * 3 + 1)
  have f2 := hp.slots.frozen (k * 3 + 2)
  obtain ⟨g, hg⟩ : ∃ g : Int, h / 65536 = g := ⟨_, rfl⟩
  rw [hg] at ha hg0 ⊢
  have hfin : ∀ w' : World, Blk w' r 86 [.slice (some ⟨rb, 0, none⟩) n n] → Blk w' rb 88 (slotsCells (sl.set k ⟨g, true, x⟩)) → RefAt w' r rb n (sl.set k ⟨g, true, x⟩) :=
    fun w' b1 b2 => hp.set ⟨by simp only; omega, by simp only; omega, fun h => by simp only; omega⟩ b1 b2
  have b2 := ((hp.slots.set (k * 3) (.int .i64 g)).set (k * 3 + 1) (.bool true)).set (k * 3 + 2) (.int .i64 x)
  have e0 := slots_set sl k ⟨g, true, x⟩ (by rw [hp.len]; exact hk)
  simp only at e0
  rw [e0] at b2
  have hne := hp.ne
  have hhd := hp.head
  obtain ⟨age, full, what⟩ := s'
  simp only at *
  have hkn : (k : Int) < (n : Int) := by omega
  subst hf
  clear hs hat e0 a2
  have Hfin := Lib.hid hfin
  clear hfin
  go_enter Try.func30, Try.ntmps30
  go_wp2
  go_ret
  refine ⟨rfl, Hfin.out _ ?_ b2, ?_⟩
  · exact ((hhd.setCell_ne (p := ⟨rb, k * 3, none⟩) hne _).setCell_ne (p := ⟨rb, k * 3 + 1, none⟩) hne _).setCell_ne (p := ⟨rb, k * 3 + 2, none⟩) hne _
  · exact (((Mod.refl _ _).setCell (p := ⟨rb, k * 3, none⟩) (fun _ => .inr rfl) _).setCell (p := ⟨rb, k * 3 + 1, none⟩) (fun _ => .inr rfl) _).setCell (p := ⟨rb, k * 3 + 2, none⟩) (fun _ => .inr rfl) _
def RefPut (x : Int) (r rb n : Nat) (sl : List Slot) (w : World) (e : Ending) (w' : World) : Prop := Mod (Rl r rb) w w' ∧
      ((putN sl n = none ∧ e = .returned (.tuple #[.int .i64 0, .int .i64 30]) ∧ RefAt w' r rb n sl) ∨
       ∃ k s, putN sl n = some k ∧ sl[k]? = some s ∧ e = .returned (.tuple #[.int .i64 (s.age * 65536 + k + 1), .int .i64 0]) ∧ RefAt w' r rb n (sl.set k ⟨s.age, true, x⟩))
theorem putN_none {sl : List Slot} {n : Nat} (h : ∀ j, j < n → isFree sl j = false) : putN sl n = none := by
  unfold putN; rw [freesTo_none h]; rfl
theorem putN_some {sl : List Slot} {n k : Nat} (h : ∀ j, j < k → isFree sl j = false) (hk : isFree sl k = true) (hkn : k < n) : putN sl n = some k := freesTo_first h hk hkn
set_option maxHeartbeats 4000000 in
theorem refput_any (x : Int) (r rb n : Nat) (sl : List Slot) (w : World) (hp : RefAt w r rb n sl) :
    Calls Try.prog 36 #[.pointer (some ⟨r, 0, none⟩), .int .i64 x] w (RefPut x r rb n sl w) := by
  have c0 := hp.head.cell 0
  simp only [List.getElem?_cons_zero] at c0
  have hn := hp.room
  have hne := hp.ne
  go_enter Try.func36, Try.ntmps36
  go_wp2
  go_loop [6] (fun i => ∃ k : Nat, k ≤ n ∧ i = .int .i64 k ∧ Hid (∀ j, j < k → isFree sl j = false)) (fun i => n - (intOf i).toNat)
  case atStart => exact ⟨0, Nat.zero_le _, rfl, Lib.hid (fun j hj => by omega)⟩
  case round =>
    obtain ⟨k, hk, rfl, hno⟩ := hrel
    by_cases hlt : k < n
    · obtain ⟨s, hs⟩ : ∃ s, sl[k]? = some s := ⟨_, List.getElem?_eq_getElem (by rw [hp.len]; exact hlt)⟩
      obtain ⟨d0, d1, d2, _, a0, a1, a2⟩ := hp.slot hs
      have hkn : (k : Int) < (n : Int) := by omega
      have hn2 : (n : Int) ≤ 1024 := by omega
      have hnext : isFree sl k = false → ∀ j, j < k + 1 → isFree sl j = false := by
        intro hq j hj
        rcases Nat.lt_or_ge j k with h1 | h1
        · exact hno j h1
        · obtain rfl : j = k := by omega
          exact hq
      have Hnext := Lib.hid hnext
      have f1 := hp.slots.frozen (k * 3 + 1)
      have f2 := hp.slots.frozen (k * 3 + 2)
      have hset := slots_set sl k ⟨s.age, true, x⟩ (by rw [hp.len]; exact hlt)
      obtain ⟨q0, q1, q2⟩ := slots_get hs
      simp only at hset
      rw [list_set_self q0] at hset
      have b2 := (hp.slots.set (k * 3 + 1) (.bool true)).set (k * 3 + 2) (.int .i64 x)
      rw [hset] at b2
      have Hs := Lib.hid hs
      have hfr : isFree sl k = (!s.full && decide (s.age ≤ 1073741824)) := by simp [isFree, hs]
      have Hfr := Lib.hid hfr
      clear hs hnext hset q0 q1 q2 hfr
      obtain ⟨age, full, what⟩ := s
      simp only at d0 d1 d2 a0 a1 b2
      cases full with
      | true =>
        go_wp2
        go_round
        case rel => exact ⟨k + 1, by omega, by go_num, Lib.hid (Hnext.out (by rw [Hfr.out]; rfl))⟩
        case measure => simp [intOf]; omega
      | false =>
        by_cases e : age ≤ 1073741824
        · have hpn := Lib.hid (putN_some hno (by rw [Hfr.out]; simp [e]) hlt)
          have c0k : ∀ v, (w.setCell ⟨rb, k * 3 + 1, none⟩ v).cell? ⟨r, 0, none⟩ = some (.slice (some ⟨rb, 0, none⟩) n n) := fun v => by
            have := (hp.head.setCell_ne (p := ⟨rb, k * 3 + 1, none⟩) hne v).cell 0
            simpa using this
          have c0k2 : ∀ v u, ((w.setCell ⟨rb, k * 3 + 1, none⟩ v).setCell ⟨rb, k * 3 + 2, none⟩ u).cell? ⟨r, 0, none⟩ = some (.slice (some ⟨rb, 0, none⟩) n n) := fun v u => by
            have := ((hp.head.setCell_ne (p := ⟨rb, k * 3 + 1, none⟩) hne v).setCell_ne (p := ⟨rb, k * 3 + 2, none⟩) hne u).cell 0
            simpa using this
          go_wp2
          go_ret2
          refine ⟨((Mod.refl _ _).setCell (p := ⟨rb, k * 3 + 1, none⟩) (fun _ => .inr rfl) _).setCell (p := ⟨rb, k * 3 + 2, none⟩) (fun _ => .inr rfl) _, .inr ⟨k, _, hpn.out, Hs.out, rfl, ?_⟩⟩
          exact hp.set ⟨a0, by simp only; omega, fun _ => e⟩ ((hp.head.setCell_ne (p := ⟨rb, k * 3 + 1, none⟩) hne _).setCell_ne (p := ⟨rb, k * 3 + 2, none⟩) hne _) b2
        · go_wp2
          go_round
          case rel => exact ⟨k + 1, by omega, by go_num, Lib.hid (Hnext.out (by rw [Hfr.out]; simp [e]))⟩
          case measure => simp [intOf]; omega
    · obtain rfl : k = n := by omega
      have hpn := Lib.hid (putN_none hno)
      go_wp2
      go_ret2
      exact ⟨Mod.refl _ _, .inl ⟨hpn.out, rfl, hp⟩⟩
end Go.Proofs.Ytafljpfephomoaa
