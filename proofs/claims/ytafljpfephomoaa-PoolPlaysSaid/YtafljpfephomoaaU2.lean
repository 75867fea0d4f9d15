/- The pool's walks, on: Drop, Set, Lay, Len, New, handle. -/
import Derived.Test.YtafljpfephomoaaU1
namespace Go.Proofs.Ytafljpfephomoaa
open Go.RowKit
variable {cp : Nat} {ex : List Value}
theorem len_any (p sb n : Nat) (sl : List Slot) (many : Int) (w : World) (hp : PoolAt w p sb n cp ex sl many) :
    Calls Try.prog 20 #[.pointer (some ⟨p, 0, none⟩)] w fun e w' => e = .returned (.int .i64 many) ∧ w = w' := by
  have c1 := hp.head.cell 1
  simp only [List.getElem?_cons_zero, List.getElem?_cons_succ] at c1
  go_enter Try.func20, Try.ntmps20
  go_wp2
  go_ret
  exact ⟨rfl, rfl⟩
theorem handle_any (p sb n k : Nat) (sl : List Slot) (many : Int) (w : World) (hp : PoolAt w p sb n cp ex sl many) (s : Slot) (hs : sl[k]? = some s) :
    Calls Try.prog 41 #[.pointer (some ⟨p, 0, none⟩), .int .i64 k] w fun e w' => e = .returned (.int .i64 (s.age * 65536 + k + 1)) ∧ w = w' := by
  have c0 := hp.head.cell 0
  simp only [List.getElem?_cons_zero] at c0
  obtain ⟨d0, _, _, hk, h0, h1, _⟩ := hp.slot hs
  have hn := hp.room
  have hk1 : (k : Int) < (n : Int) := by omega
  have hn2 : (n : Int) ≤ 1024 := by omega
  obtain ⟨age, full, what⟩ := s
  simp only at d0 h0 h1
  clear hs
  go_enter Try.func41, Try.ntmps41
  go_wp2
  go_ret
  exact ⟨rfl, rfl⟩
def dropN (sl : List Slot) (h : Int) : Option (List Slot) := (atN sl h).bind fun k => (sl[k]?).map fun s => sl.set k ⟨s.age + 1, false, 0⟩
theorem drop_none (h : Int) (p sb n : Nat) (sl : List Slot) (many : Int) (w : World) (hp : PoolAt w p sb n cp ex sl many) (hh : In64 h) (hat : atN sl h = none) :
    Calls Try.prog 18 #[.pointer (some ⟨p, 0, none⟩), .int .i64 h] w fun e w' => e = .returned (.bool false) ∧ w = w' := by
  have hc := at_any h p sb n sl many w hp hh
  rw [hat] at hc
  clear hat
  go_enter Try.func18, Try.ntmps18
  go_wp2_with fail
  refine hc.mono ?_
  rintro e w' ⟨rfl, rfl⟩
  simp only [Go.Proofs.Ytafljpfephomoaa.spot]
  go_wp2
  go_ret
  exact ⟨rfl, rfl⟩
theorem drop_some (h : Int) (p sb n k : Nat) (sl : List Slot) (many : Int) (w : World) (hp : PoolAt w p sb n cp ex sl many) (hh : In64 h) (s : Slot) (hat : atN sl h = some k) (hs : sl[k]? = some s) :
    Calls Try.prog 18 #[.pointer (some ⟨p, 0, none⟩), .int .i64 h] w fun e w' => e = .returned (.bool true) ∧ PoolAt w' p sb n cp ex (sl.set k ⟨s.age + 1, false, 0⟩) (many - 1) ∧ Mod (Pl p sb) w w' := by
  have hc := at_any h p sb n sl many w hp hh
  rw [hat] at hc
  obtain ⟨s', hs', hf, ha, hm, h1⟩ := atN_some hat
  obtain rfl : s' = s := by rw [hs] at hs'; exact (Option.some.inj hs').symm
  obtain ⟨d0, d1, d2, hk, a0, a1, a2⟩ := hp.slot hs
  have hmB := hp.manyB
  have hm1 : 1 ≤ many := by
    have h2 := hp.many
    have h3 : 0 < cnt sl := List.countP_pos_iff.2 ⟨s', List.mem_of_getElem? hs, hf⟩
    omega
  have c1 := hp.head.cell 1
  simp only [List.getElem?_cons_zero, List.getElem?_cons_succ] at c1
  have f0 := hp.slots.frozen (k * 3)
  have f1 := hp.slots.frozen (k * 3 + 1)
  have f2 := hp.slots.frozen (k * 3 + 2)
  have g1 := hp.head.frozen 1
  have a2' := a2 hf
  have hfin : ∀ w' : World, Blk w' p 72 [.slice (some ⟨sb, 0, none⟩) n cp, .int .i64 (many - 1)] → Blk w' sb 77 (slotsX (sl.set k ⟨s'.age + 1, false, 0⟩) ex) → PoolAt w' p sb n cp ex (sl.set k ⟨s'.age + 1, false, 0⟩) (many - 1) :=
    fun w' b1 b2 => hp.set hs ⟨by simp only; omega, by simp only; omega, fun h => by cases h⟩ (by simp [hf]) b1 b2
  have b0 := hp.slots.set (k * 3) (.int .i64 (s'.age + 1))
  have b1 := b0.set (k * 3 + 1) (.bool false)
  have b2 := b1.set (k * 3 + 2) (.int .i64 0)
  have e0 := slotsX_set sl ex k ⟨s'.age + 1, false, 0⟩ (by rw [hp.len]; exact hk)
  simp only at e0
  rw [e0] at b2
  have hne := hp.ne
  have hhd := hp.head
  obtain ⟨age, full, what⟩ := s'
  simp only at *
  clear hs hs' hat ha hm a2 b0 b1 e0 hf
  have Hfin := Lib.hid hfin
  clear hfin
  go_enter Try.func18, Try.ntmps18
  go_wp2_with fail
  refine hc.mono ?_
  rintro e w' ⟨rfl, rfl⟩
  simp only [Go.Proofs.Ytafljpfephomoaa.spot]
  go_wp2
  go_ret
  refine ⟨rfl, Hfin.out _ ?_ ?_, ?_⟩
  · exact (((hhd.setCell_ne (p := ⟨sb, k * 3, none⟩) hne _).setCell_ne (p := ⟨sb, k * 3 + 1, none⟩) hne _).setCell_ne (p := ⟨sb, k * 3 + 2, none⟩) hne _).set 1 _
  · exact b2.setCell_ne (p := ⟨p, 1, none⟩) (fun e => hne e.symm) _
  · exact ((((Mod.refl _ _).setCell (p := ⟨sb, k * 3, none⟩) (fun _ => .inr rfl) _).setCell (p := ⟨sb, k * 3 + 1, none⟩) (fun _ => .inr rfl) _).setCell (p := ⟨sb, k * 3 + 2, none⟩) (fun _ => .inr rfl) _).setCell (p := ⟨p, 1, none⟩) (fun _ => .inl rfl) _

theorem set_none (h x : Int) (p sb n : Nat) (sl : List Slot) (many : Int) (w : World) (hp : PoolAt w p sb n cp ex sl many) (hh : In64 h) (hat : atN sl h = none) :
    Calls Try.prog 32 #[.pointer (some ⟨p, 0, none⟩), .int .i64 h, .int .i64 x] w fun e w' => e = .returned (.bool false) ∧ w = w' := by
  have hc := at_any h p sb n sl many w hp hh
  rw [hat] at hc
  clear hat
  go_enter Try.func32, Try.ntmps32
  go_wp2_with fail
  refine hc.mono ?_
  rintro e w' ⟨rfl, rfl⟩
  simp only [Go.Proofs.Ytafljpfephomoaa.spot]
  go_wp2
  go_ret
  exact ⟨rfl, rfl⟩
theorem set_some (h x : Int) (p sb n k : Nat) (sl : List Slot) (many : Int) (w : World) (hp : PoolAt w p sb n cp ex sl many) (hh : In64 h) (s : Slot) (hat : atN sl h = some k) (hs : sl[k]? = some s) :
    Calls Try.prog 32 #[.pointer (some ⟨p, 0, none⟩), .int .i64 h, .int .i64 x] w fun e w' => e = .returned (.bool true) ∧ PoolAt w' p sb n cp ex (sl.set k ⟨s.age, true, x⟩) many ∧ Mod (Pl p sb) w w' := by
  have hc := at_any h p sb n sl many w hp hh
  rw [hat] at hc
  obtain ⟨s', hs', hf, ha, hm, h1⟩ := atN_some hat
  obtain rfl : s' = s := by rw [hs] at hs'; exact (Option.some.inj hs').symm
  obtain ⟨d0, d1, d2, hk, a0, a1, a2⟩ := hp.slot hs
  have f2 := hp.slots.frozen (k * 3 + 2)
  have a2' := a2 hf
  have hfin : ∀ w' : World, Blk w' p 72 [.slice (some ⟨sb, 0, none⟩) n cp, .int .i64 many] → Blk w' sb 77 (slotsX (sl.set k ⟨s'.age, true, x⟩) ex) → PoolAt w' p sb n cp ex (sl.set k ⟨s'.age, true, x⟩) many :=
    fun w' b1 b2 => hp.set hs ⟨by simp only; omega, by simp only; omega, fun _ => by simp only; omega⟩ (by simp [hf]) b1 b2
  have b2 := hp.slots.set (k * 3 + 2) (.int .i64 x)
  have e0 := slotsX_set sl ex k ⟨s'.age, true, x⟩ (by rw [hp.len]; exact hk)
  obtain ⟨g0, g1, g2⟩ := slotsX_get ex hs
  rw [hf] at g1
  have e1 : (slotsX sl ex).set (k * 3) (.int .i64 s'.age) = slotsX sl ex := by
    obtain ⟨q, q'⟩ := List.getElem?_eq_some_iff.1 g0
    rw [← q']; exact List.set_getElem_self q
  have e2 : (slotsX sl ex).set (k * 3 + 1) (.bool true) = slotsX sl ex := by
    obtain ⟨q, q'⟩ := List.getElem?_eq_some_iff.1 g1
    rw [← q']; exact List.set_getElem_self q
  simp only at e0
  rw [e1, e2] at e0
  rw [e0] at b2
  have hne := hp.ne
  have hhd := hp.head
  obtain ⟨age, full, what⟩ := s'
  simp only at *
  clear hs hs' hat ha hm a2 e0 e1 e2 g0 g1 g2 hf
  have Hfin := Lib.hid hfin
  clear hfin
  go_enter Try.func32, Try.ntmps32
  go_wp2_with fail
  refine hc.mono ?_
  rintro e w' ⟨rfl, rfl⟩
  simp only [Go.Proofs.Ytafljpfephomoaa.spot]
  go_wp2
  go_ret
  refine ⟨rfl, Hfin.out _ ?_ b2, ?_⟩
  · exact hhd.setCell_ne (p := ⟨sb, k * 3 + 2, none⟩) hne _
  · exact (Mod.refl _ _).setCell (p := ⟨sb, k * 3 + 2, none⟩) (fun _ => .inr rfl) _

theorem new_bad (room : Int) (w : World) (h : room < 1 ∨ 1024 < room) :
    Calls Try.prog 16 #[.int .i64 room] w fun e w' => e = .returned (.tuple #[.pointer none, .int .i64 1]) ∧ w = w' := by
  by_cases h1 : room < 1
  · go_enter Try.func16, Try.ntmps16
    go_wp2
    go_ret2
    exact ⟨rfl, rfl⟩
  · have h2 : 1024 < room := by omega
    clear h
    go_enter Try.func16, Try.ntmps16
    go_wp2
    go_ret2
    exact ⟨rfl, rfl⟩
theorem info77 : (Try.prog.info? 77).map (fun i => (i.zero, i.size, i.bytes)) = some (some (.agg #[.int .i64 0, .bool false, .int .i64 0]), 3, 24) := by kernel_rfl
def noSlot : Slot := ⟨0, false, 0⟩
theorem made_flat {α : Type} (f : α → List Value) {sz : Nat} (hf : ∀ y, (f y).length = sz) (hsz : 0 < sz) (x : α) (n : Nat) : (madeCells (f x).toArray (n * sz)).toList = (List.replicate n x).flatMap f := by
  apply List.ext_getElem?
  intro i
  by_cases hi : i < n * sz
  · have hr : i % sz < sz := Nat.mod_lt _ hsz
    have hd : i / sz < n := Nat.div_lt_of_lt_mul (by rw [Nat.mul_comm]; exact hi)
    have hi2 : i = i / sz * sz + i % sz := by have := Nat.div_add_mod i sz; rw [Nat.mul_comm]; omega
    have h1 : ((List.replicate n x).flatMap f)[i]? = (f x)[i % sz]? := by
      conv => lhs; rw [hi2]
      exact flat_get hf _ _ _ x (by simp [hd]) hr
    rw [h1]
    have hlt : i % sz < (f x).length := by rw [hf]; exact hr
    simp only [madeCells, Array.toList_map, Array.toList_range, List.getElem?_map, List.size_toArray, hf]
    rw [List.getElem?_range hi]
    simp [hlt]
  · rw [List.getElem?_eq_none (by simp [size_madeCells]; omega), List.getElem?_eq_none (by rw [flat_len hf]; simp; omega)]
theorem made_slots (n : Nat) : (madeCells (Value.cells (.agg #[.int .i64 0, .bool false, .int .i64 0])) (n * 3)).toList = slotsCells (List.replicate n noSlot) :=
  made_flat slotCells (fun _ => rfl) (by decide) noSlot n
theorem new_ok (room : Int) (n : Nat) (hn : room = (n : Int)) (w : World) (h1 : 1 ≤ n) (h2 : n ≤ 1024) :
    Calls Try.prog 16 #[.int .i64 room] w fun e w' => ∃ p sb, e = .returned (.tuple #[.pointer (some ⟨p, 0, none⟩), .int .i64 0]) ∧ PoolAt w' p sb n n [] (List.replicate n noSlot) 0 ∧ Below w.heap.size w w' ∧ w.heap.size ≤ p ∧ w.heap.size ≤ sb := by
  subst hn
  obtain ⟨i0, hi, hz0, hz1, hz2⟩ := info_parts info77
  have n1 : (1 : Int) ≤ (n : Int) := by omega
  have n2 : (n : Int) ≤ 1024 := by omega
  go_enter Try.func16, Try.ntmps16
  go_wp2_with (at_make; refine wpList_make_full _ rfl _ _ 70 rfl w.heap.size 77 i0 (.agg #[.int .i64 0, .bool false, .int .i64 0]) 3 Try.underlying70 hi hz0 hz1 .i64 .i64 _ _ n rfl rfl rfl rfl (by rw [hz2]; omega) (by unfold maxLen; omega) (Nat.le_refl _) ?_; intro w1 hown1 hg1)
  have hs := own_blk hown1
  rw [made_slots] at hs
  have hB := ((Below.refl w.heap.size w).grown hg1 (Nat.le_refl _) (by simp))
  have hlt := hs.lt
  go_ret2
  refine ⟨w1.heap.size, w.heap.size, rfl, ⟨by simp, ?_, by simpa [slotsX] using hs.alloc _, by omega, ⟨h1, h2⟩, ?_, ?_, by omega⟩, hB.alloc hB.size _, hB.size, Nat.le_refl _⟩
  · exact Blk.new w1 72 [_, _]
  · intro s hs
    rw [List.mem_replicate] at hs
    rw [hs.2]; simp [noSlot]
  · have : ∀ m, cnt (List.replicate m noSlot) = 0 := by
      intro m; unfold cnt; rw [List.countP_eq_zero]; intro a ha; rw [List.mem_replicate] at ha; rw [ha.2]; simp [noSlot]
    rw [this]; rfl

/-- Where a handle may be laid. -/
def layN (sl : List Slot) (h : Int) : Option Nat :=
  if h < 1 then none else if h % 65536 = 0 then none else if 1073741824 < h / 65536 then none else
    match sl[(h % 65536 - 1).toNat]? with
    | some s => if s.full = true ∨ h / 65536 < s.age then none else some (h % 65536 - 1).toNat
    | none => none
theorem layN_some {sl : List Slot} {h : Int} {k : Nat} (e : layN sl h = some k) : ∃ s, sl[k]? = some s ∧ s.full = false ∧ s.age ≤ h / 65536 ∧ h / 65536 ≤ 1073741824 ∧ h % 65536 = (k : Int) + 1 ∧ 1 ≤ h := by
  unfold layN at e
  split at e
  · cases e
  · split at e
    · cases e
    · split at e
      · cases e
      · split at e
        · rename_i s hs
          split at e
          · cases e
          · rename_i hc
            simp only [Option.some.injEq] at e
            subst e
            refine ⟨s, hs, by simpa using fun h => hc (.inl h), by omega, by omega, by omega, by omega⟩
        · cases e
set_option maxHeartbeats 2000000 in
theorem lay_none (h x : Int) (p sb n : Nat) (sl : List Slot) (many : Int) (w : World) (hp : PoolAt w p sb n cp ex sl many) (hh : In64 h) (hat : layN sl h = none) :
    Calls Try.prog 28 #[.pointer (some ⟨p, 0, none⟩), .int .i64 h, .int .i64 x] w fun e w' => e = .returned (.bool false) ∧ w = w' := by
  obtain ⟨h1, h2⟩ := hh
  have c0 := hp.head.cell 0
  simp only [List.getElem?_cons_zero] at c0
  have hn := hp.room
  by_cases a1 : h < 1
  · clear hat
    go_enter Try.func28, Try.ntmps28
    go_wp2
    go_ret
    exact ⟨rfl, rfl⟩
  · have a1' : 1 ≤ h := by omega
    obtain ⟨k, hk⟩ : ∃ k : Nat, h % 65536 = (k : Int) := ⟨(h % 65536).toNat, by omega⟩
    obtain ⟨g, hg⟩ : ∃ g : Int, h / 65536 = g := ⟨_, rfl⟩
    by_cases a2 : k = 0
    · subst a2
      have hk' : h % 65536 < 1 := by omega
      clear hat hk hg
      go_enter Try.func28, Try.ntmps28
      go_wp2
      go_ret
      exact ⟨rfl, rfl⟩
    · obtain ⟨k, rfl⟩ : ∃ j, k = j + 1 := ⟨k - 1, by omega⟩
      have hkt : (h % 65536 - 1).toNat = k := by omega
      have hk1 : h % 65536 = (k : Int) + 1 := by omega
      by_cases a3 : k < n
      · obtain ⟨s, hs⟩ : ∃ s, sl[k]? = some s := ⟨_, List.getElem?_eq_getElem (by rw [hp.len]; exact a3)⟩
        obtain ⟨d0, d1, d2, _⟩ := hp.slot hs
        have hkn : (k : Int) < (n : Int) := by omega
        by_cases a4 : 1073741824 < g
        · clear hat hk hkt hs d0 d1 d2
          go_enter Try.func28, Try.ntmps28
          go_wp2
          go_ret
          exact ⟨rfl, rfl⟩
        · obtain ⟨age, full, what⟩ := s
          simp only at d0 d1 d2
          have hor : full = true ∨ g < age := by
            unfold layN at hat
            rw [if_neg a1, if_neg (by omega), if_neg (by omega), hkt, hs, hg] at hat
            simp only at hat
            split at hat
            · assumption
            · cases hat
          clear hat hk hkt hs
          cases full with
          | true =>
            clear hor
            go_enter Try.func28, Try.ntmps28
            go_wp2
            go_ret
            exact ⟨rfl, rfl⟩
          | false =>
            have hga : g < age := by rcases hor with h | h; cases h; exact h
            clear hor
            go_enter Try.func28, Try.ntmps28
            go_wp2
            go_ret
            exact ⟨rfl, rfl⟩
      · have hkn : ¬ (k : Int) < (n : Int) := by omega
        clear hat hk hkt hg
        go_enter Try.func28, Try.ntmps28
        go_wp2
        go_ret
        exact ⟨rfl, rfl⟩
set_option maxHeartbeats 2000000 in
theorem lay_some (h x : Int) (p sb n k : Nat) (sl : List Slot) (many : Int) (w : World) (hp : PoolAt w p sb n cp ex sl many) (hh : In64 h) (hat : layN sl h = some k) :
    Calls Try.prog 28 #[.pointer (some ⟨p, 0, none⟩), .int .i64 h, .int .i64 x] w fun e w' => e = .returned (.bool true) ∧ PoolAt w' p sb n cp ex (sl.set k ⟨h / 65536, true, x⟩) (many + 1) ∧ Mod (Pl p sb) w w' := by
  obtain ⟨s', hs, hf, ha, hg0, hm, h1⟩ := layN_some hat
  obtain ⟨d0, d1, d2, hk, a0, a1, a2⟩ := hp.slot hs
  obtain ⟨hh1, hh2⟩ := hh
  have hn := hp.room
  have hmB := hp.manyB
  have c0 := hp.head.cell 0
  have c1 := hp.head.cell 1
  simp only [List.getElem?_cons_zero, List.getElem?_cons_succ] at c0 c1
  have f0 := hp.slots.frozen (k * 3)
  have f1 := hp.slots.frozen (k * 3 + 1)
  have f2 := hp.slots.frozen (k * 3 + 2)
  have g1 := hp.head.frozen 1
  obtain ⟨g, hg⟩ : ∃ g : Int, h / 65536 = g := ⟨_, rfl⟩
  rw [hg] at ha hg0 ⊢
  have hfin : ∀ w' : World, Blk w' p 72 [.slice (some ⟨sb, 0, none⟩) n cp, .int .i64 (many + 1)] → Blk w' sb 77 (slotsX (sl.set k ⟨g, true, x⟩) ex) → PoolAt w' p sb n cp ex (sl.set k ⟨g, true, x⟩) (many + 1) :=
    fun w' b1 b2 => hp.set hs ⟨by simp only; omega, by simp only; omega, fun h => by simp only; omega⟩ (by simp [hf]) b1 b2
  have b2 := ((hp.slots.set (k * 3) (.int .i64 g)).set (k * 3 + 1) (.bool true)).set (k * 3 + 2) (.int .i64 x)
  have e0 := slotsX_set sl ex k ⟨g, true, x⟩ (by rw [hp.len]; exact hk)
  simp only at e0
  rw [e0] at b2
  have hne := hp.ne
  have hhd := hp.head
  obtain ⟨age, full, what⟩ := s'
  simp only at *
  have hkn : (k : Int) < (n : Int) := by omega
  subst hf
  clear hs hat e0 a2
  have Hfin := Lib.hid hfin
  clear hfin
  go_enter Try.func28, Try.ntmps28
  go_wp2
  go_ret
  refine ⟨rfl, Hfin.out _ ?_ ?_, ?_⟩
  · exact (((hhd.setCell_ne (p := ⟨sb, k * 3, none⟩) hne _).setCell_ne (p := ⟨sb, k * 3 + 1, none⟩) hne _).setCell_ne (p := ⟨sb, k * 3 + 2, none⟩) hne _).set 1 _
  · exact b2.setCell_ne (p := ⟨p, 1, none⟩) (fun e => hne e.symm) _
  · exact ((((Mod.refl _ _).setCell (p := ⟨sb, k * 3, none⟩) (fun _ => .inr rfl) _).setCell (p := ⟨sb, k * 3 + 1, none⟩) (fun _ => .inr rfl) _).setCell (p := ⟨sb, k * 3 + 2, none⟩) (fun _ => .inr rfl) _).setCell (p := ⟨p, 1, none⟩) (fun _ => .inl rfl) _
end Go.Proofs.Ytafljpfephomoaa
