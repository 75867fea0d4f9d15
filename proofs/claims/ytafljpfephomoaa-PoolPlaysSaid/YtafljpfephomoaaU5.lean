/- The pool's Put. -/
import Derived.Test.YtafljpfephomoaaU3
import Derived.Laws.ResultCell
import Derived.Test.YtafljpfephomoaaRv
namespace Go.Proofs.Ytafljpfephomoaa
open Go.RowKit Go.Shelf
variable {cp : Nat} {ex : List Value}
attribute [local go_sem] Oper.semAt_some
theorem free_any (p : Nat) (w : World) : Calls Try.prog 40 #[.pointer (some ⟨p, 0, none⟩)] w fun e w' => e = .returned (.func (.func 50) #[] #[.pointer (some ⟨w.heap.size, 0, none⟩)]) ∧ w' = w.alloc (.cells #[.pointer (some ⟨p, 0, none⟩)] 30) := by
  go_enter Try.func40, Try.ntmps40
  go_wp2
  go_ret
  exact ⟨rfl, rfl⟩
theorem freesTo_mem {sl : List Slot} {m k : Nat} (h : k ∈ freesTo sl m) : isFree sl k = true := by
  induction m with
  | zero => simp [freesTo] at h
  | succ m ih =>
    simp only [freesTo] at h
    split at h
    · rcases List.mem_append.1 h with h | h
      · exact ih h
      · simp at h; subst h; assumption
    · exact ih h
theorem PoolAt.grownFrom {A A' : World} {row : Option Nat} {B p sb n : Nat} {sl : List Slot} {many : Int} (h : PoolAt A p sb n cp ex sl many) (hg : A.grownBy A' row) (hr : ∀ r, row = some r → B ≤ r) (h1 : p < B) (h2 : sb < B) : PoolAt A' p sb n cp ex sl many :=
  ⟨h.len, h.head.grown hg (fun e => by have := hr _ e; omega), h.slots.grown hg (fun e => by have := hr _ e; omega), h.ne, h.room, h.ages, h.many, h.cap⟩
def putN (sl : List Slot) (n : Nat) : Option Nat := (freesTo sl n).head?
def PutPost (cp : Nat) (ex : List Value) (x : Int) (p sb n : Nat) (sl : List Slot) (many : Int) (w : World) (e : Ending) (w' : World) : Prop := Mod (Pl p sb) w w' ∧
      ((putN sl n = none ∧ e = .returned (.tuple #[.int .i64 0, .int .i64 30]) ∧ PoolAt w' p sb n cp ex sl many) ∨
       ∃ k s, putN sl n = some k ∧ sl[k]? = some s ∧ e = .returned (.tuple #[.int .i64 (s.age * 65536 + k + 1), .int .i64 0]) ∧ PoolAt w' p sb n cp ex (sl.set k ⟨s.age, true, x⟩) (many + 1))
theorem list_set_self {α : Type} {l : List α} {i : Nat} {v : α} (h : l[i]? = some v) : l.set i v = l := by
  obtain ⟨q, q'⟩ := List.getElem?_eq_some_iff.1 h
  rw [← q']; exact List.set_getElem_self q
theorem slots_putFull (ex : List Value) (sl : List Slot) (k : Nat) (a : Int) (f f' : Bool) (y : Int) (h : k < sl.length) : (slotsX (sl.set k ⟨a, f, y⟩) ex).set (k * 3 + 1) (.bool f') = slotsX (sl.set k ⟨a, f', y⟩) ex := by
  have h0 : (sl.set k ⟨a, f, y⟩)[k]? = some ⟨a, f, y⟩ := by simp [h]
  obtain ⟨g0, g1, g2⟩ := slotsX_get ex h0
  have e := slotsX_set (sl.set k ⟨a, f, y⟩) ex k ⟨a, f', y⟩ (by simpa using h)
  rw [List.set_set] at e
  rw [← e]
  simp only
  rw [list_set_self g0]
  have g2' : ((slotsX (sl.set k ⟨a, f, y⟩) ex).set (k * 3 + 1) (.bool f'))[k * 3 + 2]? = some (.int .i64 y) := by
    rw [List.getElem?_set_ne (by omega)]
    exact g2
  exact (list_set_self g2').symm
theorem slots_putWhat (ex : List Value) (sl : List Slot) (k : Nat) (a : Int) (f : Bool) (y y' : Int) (h : k < sl.length) : (slotsX (sl.set k ⟨a, f, y⟩) ex).set (k * 3 + 2) (.int .i64 y') = slotsX (sl.set k ⟨a, f, y'⟩) ex := by
  have h0 : (sl.set k ⟨a, f, y⟩)[k]? = some ⟨a, f, y⟩ := by simp [h]
  obtain ⟨g0, g1, g2⟩ := slotsX_get ex h0
  have e := slotsX_set (sl.set k ⟨a, f, y⟩) ex k ⟨a, f, y'⟩ (by simpa using h)
  rw [List.set_set] at e
  rw [← e]
  simp only
  rw [list_set_self g0, list_set_self g1]
theorem Mod.putObj {S : Nat → Prop} {a w : World} (h : Mod S a w) (D : Nat) (o : Obj) (hD : D < a.heap.size → S D) : Mod S a (w.putObj D o) :=
  ⟨h.os, h.tape, h.output, by simpa [World.putObj] using h.size, fun k hk hs => (World.putObj_heap_other (by rintro rfl; exact hs (hD hk))).trans (h.block k hk hs)⟩
def PutW (ex : List Value) (sb k : Nat) (x : Int) (sl : List Slot) (s : Slot) (W : World) (f g : Bool) (w : World) : Prop :=
  KeepsOthers W w ∧ Mod (fun j => j = sb) W w ∧ Blk w sb 77 (slotsX (sl.set k ⟨s.age, f, cond g x s.what⟩) ex)
def putFr (cp : Nat) (p sb n k z : Nat) (x : Int) (t : Nat → Bool) : Act :=
  { tmps := #[.pointer (some ⟨p, 0, none⟩), .int .i64 x, .pointer (some ⟨z, 0, none⟩), .pointer (some ⟨z + 1, 0, none⟩), .pointer (some ⟨z + 1 + 1, 0, none⟩), .pointer (some ⟨z + 1 + 1 + 1, 0, none⟩), .int .i64 k, .pointer (some ⟨p, 0, none⟩), .func (.func 50) #[] #[.pointer (some ⟨z + 1 + 1 + 1 + 1, 0, none⟩)], .int .i64 k,
      cond (t 0) (.pointer (some ⟨p, 0, none⟩)) undef, cond (t 1) (.pointer (some ⟨p, 0, none⟩)) undef, cond (t 2) (.pointer (some ⟨p, 0, none⟩)) undef, cond (t 3) (.slice (some ⟨sb, 0, none⟩) n cp) undef, cond (t 4) (.int .i64 k) undef,
      cond (t 5) (.pointer (some ⟨p, 0, none⟩)) undef, cond (t 6) (.pointer (some ⟨p, 0, none⟩)) undef, cond (t 7) (.pointer (some ⟨p, 0, none⟩)) undef, cond (t 8) (.slice (some ⟨sb, 0, none⟩) n cp) undef, cond (t 9) (.int .i64 k) undef,
      cond (t 10) (.int .i64 x) undef, cond (t 11) (.pointer (some ⟨sb, k * 3, none⟩)) undef, cond (t 12) (.pointer (some ⟨sb, k * 3 + 1, none⟩)) undef, cond (t 14) (.pointer (some ⟨sb, k * 3, none⟩)) undef, cond (t 15) (.pointer (some ⟨sb, k * 3 + 2, none⟩)) undef, undef, undef, undef, undef, undef, undef, undef, undef, undef, undef], defers := [] }
set_option maxRecDepth 100000 in
set_option maxHeartbeats 4000000 in
theorem put_any (x : Int) (p sb n : Nat) (sl : List Slot) (many : Int) (w : World) (hp : PoolAt w p sb n cp ex sl many) :
    Calls Try.prog 17 #[.pointer (some ⟨p, 0, none⟩), .int .i64 x] w (PutPost cp ex x p sb n sl many w) := by
  have hpl := hp.head.lt
  have hsl := hp.slots.lt
  refine (callsIn_wide (n := 4)).1 ?_
  refine callsIn_of_wp_marks Try.func17 rfl trivial ?_ rfl
  simp only [Try.ntmps17, List.size_toArray, List.length_cons, List.length_nil, Nat.reduceAdd, Nat.reduceSub, Array.replicate_succ, Array.replicate_zero, List.push_toArray, List.append_toArray, List.nil_append, List.cons_append]
  refine wpIn_wide.2 ?_
  go_wp2_with (go_at_call 40; refine (free_any _ _).mono ?_; rintro e w' ⟨rfl, rfl⟩)
  obtain ⟨W0, hW0⟩ : ∃ W0, ((((w.alloc (.cells #[.pointer (some ⟨p, 0, none⟩)] 30)).alloc (.cells #[.int .i64 x] 3)).alloc (.cells #[.int .i64 0] 38)).alloc (.cells #[.int .i64 0] 31)).alloc (.cells #[.pointer (some ⟨p, 0, none⟩)] 30) = W0 := ⟨_, rfl⟩
  have hB0 : Below w.heap.size w W0 := by
    rw [← hW0]
    exact (((((Below.refl _ w).alloc (Nat.le_refl _) _).alloc (by simp) _).alloc (by simp; omega) _).alloc (by simp; omega) _).alloc (by simp; omega) _
  have x2 : Blk W0 w.heap.size 30 [.pointer (some ⟨p, 0, none⟩)] := by
    rw [← hW0]; exact ((((Blk.new w 30 [_]).alloc _).alloc _).alloc _).alloc _
  have x3 : Blk W0 (w.heap.size + 1) 3 [.int .i64 x] := by
    rw [← hW0]; exact (((Blk.newAt (by simp) 3 [_]).alloc _).alloc _).alloc _
  have x4 : Blk W0 (w.heap.size + 1 + 1) 38 [.int .i64 0] := by
    rw [← hW0]; exact ((Blk.newAt (by simp) 38 [_]).alloc _).alloc _
  have x5 : Blk W0 (w.heap.size + 1 + 1 + 1) 31 [.int .i64 0] := by
    rw [← hW0]; exact (Blk.newAt (by simp) 31 [_]).alloc _
  have x6 : Blk W0 (w.heap.size + 1 + 1 + 1 + 1) 30 [.pointer (some ⟨p, 0, none⟩)] := by
    rw [← hW0]; exact Blk.newAt (by simp) 30 [_]
  have hz : W0.heap.size = w.heap.size + 5 := by rw [← hW0]; simp
  have hp0 := hp.below hB0 hpl hsl
  rw [hW0]
  clear hW0
  have Hz := Lib.hid hz
  refine wpIn_wide.1 (range_list (F := Fence.wide) (n := 3) rfl (by decide) (gf := 50) (lb := #[.pointer (some ⟨w.heap.size + 1 + 1 + 1 + 1, 0, none⟩)]) rfl trivial (enters_of Try.func50 (by kernel_rfl) rfl)
    (free_seq Fence.wide 2 trivial rfl (by decide) (w.heap.size + 1 + 1 + 1 + 1) p sb n sl many W0 x6 hp0)
    (by
      intro b hb
      simp only [List.mem_cons, List.not_mem_nil, or_false] at hb
      rcases hb with rfl | rfl | rfl <;> omega)
    (Below.refl _ _) (fun _ => rfl)
    (fun pre W => pre = [] ∧ Below W0.heap.size W0 W)
    (fun c pre W => c = .ret ∧ ∃ k s, pre = [k] ∧ sl[k]? = some s ∧ PoolAt W p sb n cp ex (sl.set k ⟨s.age, true, x⟩) (many + 1) ∧ Blk W (w.heap.size + 1 + 1) 38 [.int .i64 (s.age * 65536 + k + 1)] ∧ Blk W (w.heap.size + 1 + 1 + 1) 31 [.int .i64 0] ∧ Mod (Pl p sb) w W)
    ?own ?ownx ⟨rfl, Below.refl _ _⟩
    (fun i => { tmps := #[.pointer (some ⟨p, 0, none⟩), .int .i64 x, .pointer (some ⟨w.heap.size, 0, none⟩), .pointer (some ⟨w.heap.size + 1, 0, none⟩), .pointer (some ⟨w.heap.size + 1 + 1, 0, none⟩), .pointer (some ⟨w.heap.size + 1 + 1 + 1, 0, none⟩), .int .i64 i, .pointer (some ⟨p, 0, none⟩), .func (.func 50) #[] #[.pointer (some ⟨w.heap.size + 1 + 1 + 1 + 1, 0, none⟩)], .int .i64 i, undef, undef, undef, undef, undef, undef, undef, undef, undef, undef, undef, undef, undef, undef, undef, undef, undef, undef, undef, undef, undef, undef, undef, undef, undef], defers := [] })
    ?assign ?body ?done ?stop)
  case own => exact fun s A B row hs hg hr => ⟨hs.1, hs.2.grown hg hs.2.size (fun k e => (hr k e).1)⟩
  case ownx =>
    intro c s A B row hs hg hr
    obtain ⟨rfl, k, sl', rfl, h1, h2, h3, h4, h5⟩ := hs
    have hz' := Hz.out
    have hr1 : ∀ r, row = some r → W0.heap.size ≤ r := fun r e => (hr r e).1
    exact ⟨rfl, k, sl', rfl, h1, h2.grownFrom hg hr1 (by omega) (by omega), h3.grown hg (fun e => by have := hr1 _ e; omega), h4.grown hg (fun e => by have := hr1 _ e; omega), h5.grown hg (fun r e hlt => by have := hr1 _ e; omega)⟩
  case assign =>
    intro l i W K hK
    gi_wp2
    exact hK
  case body =>
    rintro l pre k W hl ⟨r, hr⟩ ⟨rfl, hB⟩ ⟨post, hpost⟩
    have hk := freesTo_mem (sl := sl) (m := n) (k := k) (by rw [hpost]; simp)
    obtain ⟨s, hs, hf, ha⟩ : ∃ s, sl[k]? = some s ∧ s.full = false ∧ s.age ≤ 1073741824 := by
      unfold isFree at hk
      split at hk
      · rename_i s hs
        simp only [Bool.and_eq_true, Bool.not_eq_true', decide_eq_true_eq] at hk
        exact ⟨s, hs, hk.1, hk.2⟩
      · cases hk
    have hz' := Hz.out
    have hpW := hp0.below hB hp0.head.lt hp0.slots.lt
    have y2 := x2.below hB x2.lt
    have y3 := x3.below hB x3.lt
    have y4 := x4.below hB x4.lt
    have y5 := x5.below hB x5.lt
    obtain ⟨d0, d1, d2, hkn, a0, a1, _⟩ := hpW.slot hs
    have c2 := y2.cell 0
    have c3 := y3.cell 0
    have c4 := y4.cell 0
    have c5 := y5.cell 0
    have h0 := hpW.head.cell 0
    have h1 := hpW.head.cell 1
    simp only [List.getElem?_cons_zero, List.getElem?_cons_succ] at c2 c3 c4 c5 h0 h1
    have f4 := y4.frozen 0
    have f5 := y5.frozen 0
    have g1 := hpW.head.frozen 1
    have g2 := hpW.slots.frozen (k * 3 + 1)
    have g3 := hpW.slots.frozen (k * 3 + 2)
    have hkn' : (k : Int) < (n : Int) := by omega
    have hn := hp.room
    have hmB := hp.manyB
    clear hpost hk
    gi_wp2_with fail
    have hkl : k < sl.length := by rw [hp.len]; exact hkn
    have hInit : sl.set k ⟨s.age, false, s.what⟩ = sl := by
      have e : s = ⟨s.age, false, s.what⟩ := by rw [← hf]
      rw [← e]
      exact list_set_self hs
    have HkX := Lib.hid hInit
    refine wpIn_region_inv (fun t a v => a = putFr cp p sb n k w.heap.size x t ∧ PutW ex sb k x sl s W (t 13) (t 16) v) (by kernel_rfl) (by kernel_rfl) ⟨rfl, (KeepsOthers.refl W).trans (KeepsOthers.drew W), (Mod.refl _ _).drew, by rw [show sl.set k ⟨s.age, false, cond false x s.what⟩ = sl from HkX.out]; exact hpW.slots.drew⟩ ?steps ?fin
    case steps =>
      clear hInit
      refine ⟨?_, ?_, ?_, ?_, ?_, ?_, ?_, ?_, ?_, ?_, ?_, ?_, ?_, ?_, ?_, ?_, ?_, trivial⟩
      all_goals
        rintro t a v ⟨rfl, k1, k2, k3⟩ ht hd K hK
        have u2 := (y2.mod k2 (by omega)).cell 0
        have u3 := (y3.mod k2 (by omega)).cell 0
        have uh := (hpW.head.mod k2 hpW.ne).cell 0
        simp only [List.getElem?_cons_zero] at u2 u3 uh
        obtain ⟨_, d1', d2'⟩ := slotsX_get ex (sl := sl.set k ⟨s.age, t 13, cond (t 16) x s.what⟩) (k := k) (s := ⟨s.age, t 13, cond (t 16) x s.what⟩) (by simp [hkl])
        rw [← k3.cell] at d1' d2'
        have f1 := k3.frozen (k * 3 + 1)
        have f2 := k3.frozen (k * 3 + 2)
        simp [DepsIn, Region.binds] at hd
        simp only [putFr, ht, hd, cond_true, cond_false]
        go_simp
        first
        | (refine hK _ _ ⟨?_, k1, k2, k3⟩
           simp only [putFr, upd, ht, hd, cond_true, cond_false, Nat.beq]
           try rfl)
        | (refine hK _ _ ⟨?_, k1.trans (KeepsOthers.setCell _ _ _), k2.setCell (p := ⟨sb, _, none⟩) (fun _ => rfl) _, ?_⟩
           · simp only [putFr, upd, hd, cond_true, cond_false, Nat.beq]
             try rfl
           · first
             | exact (slots_putFull ex sl k s.age (t 13) true (cond (t 16) x s.what) hkl) ▸ k3.set (k * 3 + 1) (.bool true)
             | exact (slots_putWhat ex sl k s.age (t 13) (cond (t 16) x s.what) x hkl) ▸ k3.set (k * 3 + 2) (.int .i64 x))
    case fin =>
      rintro t a v hall ⟨rfl, k1, k2, k3⟩
      have h13 := hall 13 (by decide)
      have h16 := hall 16 (by decide)
      rw [h13, h16] at k3
      simp only [cond_true] at k3
      simp only [putFr, hall 0 (by decide), hall 1 (by decide), hall 2 (by decide), hall 3 (by decide), hall 4 (by decide), hall 5 (by decide), hall 6 (by decide), hall 7 (by decide), hall 8 (by decide), hall 9 (by decide), hall 10 (by decide), hall 11 (by decide), hall 12 (by decide), hall 14 (by decide), hall 15 (by decide), cond_true]
      have hpv : PoolAt (v.setCell ⟨p, 1, none⟩ (.int .i64 (many + 1))) p sb n cp ex (sl.set k ⟨s.age, true, x⟩) (many + 1) :=
        hpW.set hs ⟨by simp only; omega, by simp only; omega, fun _ => by simp only; omega⟩ (by simp [hf]) ((hpW.head.mod k2 hpW.ne).set 1 _) (k3.setCell_ne (p := ⟨p, 1, none⟩) (fun e => hpW.ne e.symm) _)
      have w2 := (y2.mod k2 (by omega)).cell 0
      have wh := (hpW.head.mod k2 hpW.ne).cell 1
      have wg := (hpW.head.mod k2 hpW.ne).frozen 1
      have w4 := (y4.mod k2 (by omega)).frozen 0
      have w5 := (y5.mod k2 (by omega)).frozen 0
      have w4c := (y4.mod k2 (by omega)).cell 0
      have w5c := (y5.mod k2 (by omega)).cell 0
      simp only [List.getElem?_cons_zero, List.getElem?_cons_succ] at w2 wh w4c w5c
      have hmB' : 0 ≤ many ∧ many ≤ 1024 := by omega
      have hcall := handle_any p sb n k _ _ _ hpv ⟨s.age, true, x⟩ (by simp [hkl])
      have hc' : CallsIn (Fence.wide.inRound l) 0 Try.prog 41 _ _ _ := (callsIn_wide (n := 0)).2 hcall
      have Hpv := Lib.hid hpv
      clear hcall hpv
      gi_wp2_with fail
      refine ⟨trivial, hc'.mono ?_⟩
      rintro e v' ⟨rfl, rfl⟩
      gi_wp2
      have hwB : Mod (Pl p sb) w W := Mod.of_below (hB0.trans (hB.mono (by omega))) (fun j h1 h2 => by omega)
      refine ⟨((k1.trans (KeepsOthers.setCell _ _ _)).trans (KeepsOthers.setCell _ _ _)).trans (KeepsOthers.setCell _ _ _), rfl, k, s, rfl, hs, ?_, ?_, ?_, ?_⟩
      · exact Hpv.out.mod (S := fun j => j = w.heap.size + 1 + 1 ∨ j = w.heap.size + 1 + 1 + 1) (((Mod.refl _ _).setCell (p := ⟨w.heap.size + 1 + 1, 0, none⟩) (fun _ => .inl rfl) _).setCell (p := ⟨w.heap.size + 1 + 1 + 1, 0, none⟩) (fun _ => .inr rfl) _) (by omega) (by omega)
      · exact ((((y4.mod k2 (by omega)).setCell_ne (p := ⟨p, 1, none⟩) (by simp only; omega) _).set 0 _).setCell_ne (p := ⟨w.heap.size + 1 + 1 + 1, 0, none⟩) (by simp only; omega) _)
      · exact ((((y5.mod k2 (by omega)).setCell_ne (p := ⟨p, 1, none⟩) (by simp only; omega) _).setCell_ne (p := ⟨w.heap.size + 1 + 1, 0, none⟩) (by simp only; omega) _).set 0 _)
      · exact (((hwB.trans (k2.mono (fun j _ h => .inr h))).setCell (p := ⟨p, 1, none⟩) (fun _ => .inl rfl) _).setCell (p := ⟨w.heap.size + 1 + 1, 0, none⟩) (fun h => by simp only at h; omega) _).setCell (p := ⟨w.heap.size + 1 + 1 + 1, 0, none⟩) (fun h => by simp only at h; omega) _
  case done =>
    intro D W hD ⟨hnil, hB⟩ hK
    have hz' := Hz.out
    have y4 := x4.below hB x4.lt
    have y5 := x5.below hB x5.lt
    have f4 := y4.frozen 0
    have f5 := y5.frozen 0
    have c4 := y4.cell 0
    have c5 := y5.cell 0
    simp only [List.getElem?_cons_zero] at c4 c5
    gi_wp2
    go_wp2
    have hwB : Mod (Pl p sb) w W := Mod.of_below (hB0.trans (hB.mono (by omega))) (fun j h1 h2 => by omega)
    have hwW := (hwB.setCell (p := ⟨w.heap.size + 1 + 1, 0, none⟩) (fun h => by simp only at h; omega) (.int .i64 0)).setCell (p := ⟨w.heap.size + 1 + 1 + 1, 0, none⟩) (fun h => by simp only at h; omega) (.int .i64 30)
    have hK2 : ((W.setCell ⟨w.heap.size + 1 + 1, 0, none⟩ (.int .i64 0)).setCell ⟨w.heap.size + 1 + 1 + 1, 0, none⟩ (.int .i64 30)).heap[D]? = some (.deferred (some [])) := by
      rw [Below.heap_setCell _ _ _ _ (by simp only; omega), Below.heap_setCell _ _ _ _ (by simp only; omega)]
      exact hK
    have z4 := ((y4.set 0 (.int .i64 0)).setCell_ne (p := ⟨w.heap.size + 1 + 1 + 1, 0, none⟩) (by simp only; omega) (.int .i64 30))
    have z5 := ((y5.setCell_ne (p := ⟨w.heap.size + 1 + 1, 0, none⟩) (by simp only; omega) (.int .i64 0)).set 0 (.int .i64 30))
    have zp : PoolAt ((W.setCell ⟨w.heap.size + 1 + 1, 0, none⟩ (.int .i64 0)).setCell ⟨w.heap.size + 1 + 1 + 1, 0, none⟩ (.int .i64 30)) p sb n cp ex sl many :=
      (hp0.below hB (by omega) (by omega)).mod (S := fun j => j = w.heap.size + 1 + 1 ∨ j = w.heap.size + 1 + 1 + 1) (((Mod.refl _ _).setCell (p := ⟨w.heap.size + 1 + 1, 0, none⟩) (fun _ => .inl rfl) _).setCell (p := ⟨w.heap.size + 1 + 1 + 1, 0, none⟩) (fun _ => .inr rfl) _) (by omega) (by omega)
    generalize ((W.setCell ⟨w.heap.size + 1 + 1, 0, none⟩ (.int .i64 0)).setCell ⟨w.heap.size + 1 + 1 + 1, 0, none⟩ (.int .i64 30)) = V at hwW hK2 z4 z5 zp
    refine ⟨by simp, .inl ⟨_, _, rfl, run_takeDeferred hK2, ?_⟩⟩
    have mD : Mod (fun j => j = D) V (V.putObj D (.deferred none)) := (Mod.refl _ _).putObj D _ (fun _ => rfl)
    have q4 := (z4.mod mD (by omega)).cell 0
    have q5 := (z5.mod mD (by omega)).cell 0
    simp only [List.set_cons_zero, List.getElem?_cons_zero] at q4 q5
    refine ⟨.tuple #[.int .i64 0, .int .i64 30], ?_, hwW.putObj D _ (fun h => by omega), .inl ⟨?_, rfl, zp.mod mD (by omega) (by omega)⟩⟩
    · simp [results, Try.f17, go_sem, q4, q5]
    · rw [putN, hnil]; rfl
  case stop =>
    rintro D c pre W hD ⟨post, hpost⟩ ⟨rfl, k, s, rfl, hs, hP, q4, q5, hM⟩ hK
    have hz' := Hz.out
    gi_wp2
    refine ⟨by simp, .inl ⟨_, _, rfl, run_takeDeferred hK, ?_⟩⟩
    have mD : Mod (fun j => j = D) W (W.putObj D (.deferred none)) := (Mod.refl _ _).putObj D _ (fun _ => rfl)
    have g4 := (q4.mod mD (by omega)).cell 0
    have g5 := (q5.mod mD (by omega)).cell 0
    simp only [List.getElem?_cons_zero] at g4 g5
    refine ⟨.tuple #[.int .i64 (s.age * 65536 + k + 1), .int .i64 0], ?_, hM.putObj D _ (fun h => by omega), .inr ⟨k, s, ?_, hs, rfl, hP.mod mD (by omega) (by omega)⟩⟩
    · simp [results, Try.f17, go_sem, g4, g5]
    · rw [putN, hpost]; rfl
end Go.Proofs.Ytafljpfephomoaa
