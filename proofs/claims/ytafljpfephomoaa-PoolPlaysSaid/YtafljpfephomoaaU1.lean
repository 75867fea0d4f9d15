/- The pool in memory, and the walks of its smaller functions. -/
import Derived.Test.YtafljpfephomoaaG
import Derived.Test.YtafljpfephomoaaO
namespace Go.Proofs.Ytafljpfephomoaa
open Go.RowKit
variable {cp : Nat} {ex : List Value}
structure Slot where
  age : Int
  full : Bool
  what : Int
  deriving Inhabited, DecidableEq
def slotCells (s : Slot) : List Value := [.int .i64 s.age, .bool s.full, .int .i64 s.what]
def slotsCells (sl : List Slot) : List Value := sl.flatMap slotCells
theorem slots_len (sl : List Slot) : (slotsCells sl).length = sl.length * 3 := flat_len (f := slotCells) (sz := 3) (fun _ => rfl) sl
theorem slots_get {sl : List Slot} {k : Nat} {s : Slot} (h : sl[k]? = some s) : (slotsCells sl)[k * 3]? = some (.int .i64 s.age) ∧ (slotsCells sl)[k * 3 + 1]? = some (.bool s.full) ∧ (slotsCells sl)[k * 3 + 2]? = some (.int .i64 s.what) := by
  refine ⟨?_, ?_, ?_⟩
  · have := flat_get (f := slotCells) (sz := 3) (fun _ => rfl) sl k 0 s h (by decide); unfold slotsCells; simpa [slotCells] using this
  · have := flat_get (f := slotCells) (sz := 3) (fun _ => rfl) sl k 1 s h (by decide); unfold slotsCells; simpa [slotCells] using this
  · have := flat_get (f := slotCells) (sz := 3) (fun _ => rfl) sl k 2 s h (by decide); unfold slotsCells; simpa [slotCells] using this
theorem slots_set (sl : List Slot) (k : Nat) (s : Slot) (h : k < sl.length) : (((slotsCells sl).set (k * 3) (.int .i64 s.age)).set (k * 3 + 1) (.bool s.full)).set (k * 3 + 2) (.int .i64 s.what) = slotsCells (sl.set k s) := by
  induction sl generalizing k with
  | nil => simp at h
  | cons a sl ih =>
    cases k with
    | zero => simp [slotsCells, slotCells]
    | succ k =>
      simp only [List.length_cons] at h
      have := ih k (by omega)
      simp only [slotsCells] at this ⊢
      rw [List.set_cons_succ, List.flatMap_cons, List.flatMap_cons, ← this, show (k + 1) * 3 = k * 3 + 1 + 1 + 1 by omega]
      simp only [slotCells, List.cons_append, List.nil_append, List.set_cons_succ]

def slotsX (sl : List Slot) (ex : List Value) : List Value := slotsCells sl ++ ex
theorem slotsX_get {sl : List Slot} {k : Nat} {s : Slot} (ex : List Value) (h : sl[k]? = some s) : (slotsX sl ex)[k * 3]? = some (.int .i64 s.age) ∧ (slotsX sl ex)[k * 3 + 1]? = some (.bool s.full) ∧ (slotsX sl ex)[k * 3 + 2]? = some (.int .i64 s.what) := by
  obtain ⟨g0, g1, g2⟩ := slots_get h
  have hk : k < sl.length := (List.getElem?_eq_some_iff.1 h).1
  have hl := slots_len sl
  unfold slotsX
  rw [List.getElem?_append_left (by omega), List.getElem?_append_left (by omega), List.getElem?_append_left (by omega)]
  exact ⟨g0, g1, g2⟩
theorem slotsX_set (sl : List Slot) (ex : List Value) (k : Nat) (s : Slot) (h : k < sl.length) : (((slotsX sl ex).set (k * 3) (.int .i64 s.age)).set (k * 3 + 1) (.bool s.full)).set (k * 3 + 2) (.int .i64 s.what) = slotsX (sl.set k s) ex := by
  have hl := slots_len sl
  unfold slotsX
  rw [List.set_append_left _ _ (by omega), List.set_append_left _ _ (by simp; omega), List.set_append_left _ _ (by simp; omega), slots_set sl k s h]
def cnt (sl : List Slot) : Nat := sl.countP fun s => s.full
theorem cnt_set (sl : List Slot) (k : Nat) (s o : Slot) (h : sl[k]? = some o) : cnt (sl.set k s) + (if o.full then 1 else 0) = cnt sl + (if s.full then 1 else 0) := by
  induction sl generalizing k with
  | nil => simp at h
  | cons a sl ih =>
    cases k with
    | zero =>
      simp at h; subst h
      simp only [List.set_cons_zero, cnt, List.countP_cons]
      omega
    | succ k =>
      simp only [List.getElem?_cons_succ] at h
      have := ih k h
      simp only [List.set_cons_succ, cnt, List.countP_cons] at this ⊢
      omega
theorem cnt_le (sl : List Slot) : cnt sl ≤ sl.length := List.countP_le_length
/-- The pool at p, its places in block sb. -/
structure PoolAt (w : World) (p sb n cp : Nat) (ex : List Value) (sl : List Slot) (many : Int) : Prop where
  len : sl.length = n
  head : Blk w p 72 [.slice (some ⟨sb, 0, none⟩) n cp, .int .i64 many]
  slots : Blk w sb 77 (slotsX sl ex)
  ne : p ≠ sb
  room : 1 ≤ n ∧ n ≤ 1024
  ages : ∀ s ∈ sl, 0 ≤ s.age ∧ s.age ≤ 1073741825 ∧ (s.full = true → s.age ≤ 1073741824)
  many : many = cnt sl
  cap : n ≤ cp ∧ cp ≤ 9223372036854775807
theorem PoolAt.mod {S : Nat → Prop} {w w' : World} {p sb n : Nat} {sl : List Slot} {many : Int} (h : PoolAt w p sb n cp ex sl many) (hm : Mod S w w') (h1 : ¬ S p) (h2 : ¬ S sb) : PoolAt w' p sb n cp ex sl many :=
  ⟨h.len, h.head.mod hm h1, h.slots.mod hm h2, h.ne, h.room, h.ages, h.many, h.cap⟩
theorem PoolAt.below {B : Nat} {w w' : World} {p sb n : Nat} {sl : List Slot} {many : Int} (h : PoolAt w p sb n cp ex sl many) (hm : Below B w w') (h1 : p < B) (h2 : sb < B) : PoolAt w' p sb n cp ex sl many :=
  ⟨h.len, h.head.below hm h1, h.slots.below hm h2, h.ne, h.room, h.ages, h.many, h.cap⟩

def atN (sl : List Slot) (h : Int) : Option Nat :=
  if h < 1 then none else if h % 65536 = 0 then none else
    match sl[(h % 65536 - 1).toNat]? with
    | some s => if s.full = true ∧ s.age = h / 65536 then some (h % 65536 - 1).toNat else none
    | none => none
def spot (sb : Nat) : Option Nat → Option Addr
  | none => none
  | some k => some ⟨sb, k * 3, none⟩

theorem at_any (h : Int) (p sb n : Nat) (sl : List Slot) (many : Int) (w : World) (hp : PoolAt w p sb n cp ex sl many) (hh : In64 h) :
    Calls Try.prog 42 #[.pointer (some ⟨p, 0, none⟩), .int .i64 h] w fun e w' => e = .returned (.pointer (spot sb (atN sl h))) ∧ w = w' := by
  obtain ⟨h1, h2⟩ := hh
  have c0 := hp.head.cell 0
  simp only [List.getElem?_cons_zero] at c0
  have hn := hp.room
  by_cases a1 : h < 1
  · go_enter Try.func42, Try.ntmps42
    go_wp2
    go_ret
    exact ⟨by simp [atN, a1, spot], rfl⟩
  · have a1' : 1 ≤ h := by omega
    by_cases a2 : h % 65536 = 0
    · have hfin : atN sl h = none := by simp [atN, a2]
      have Hfin := Lib.hid hfin
      have a2' : h % 65536 < 1 := by omega
      have Ha2 := Lib.hid a2
      clear a2 hfin
      go_enter Try.func42, Try.ntmps42
      go_wp2
      go_ret
      exact ⟨by rw [Hfin.out]; rfl, rfl⟩
    · obtain ⟨k, hk⟩ : ∃ k : Nat, (k : Int) = h % 65536 - 1 := ⟨(h % 65536 - 1).toNat, by omega⟩
      have hk1 : h % 65536 = (k : Int) + 1 := by omega
      have Hk := Lib.hid hk1
      have hkt : (h % 65536 - 1).toNat = k := by omega
      by_cases a3 : k < n
      · obtain ⟨s, hs⟩ : ∃ s, sl[k]? = some s := ⟨_, List.getElem?_eq_getElem (by rw [hp.len]; exact a3)⟩
        obtain ⟨g0, g1, g2⟩ := slotsX_get ex hs
        have d0 := hp.slots.cell (k * 3)
        have d1 := hp.slots.cell (k * 3 + 1)
        rw [g0] at d0
        rw [g1] at d1
        have hfin : atN sl h = if s.full = true ∧ s.age = h / 65536 then some k else none := by
          simp only [atN, if_neg a1, if_neg a2, hkt, hs]
        have Hfin := Lib.hid hfin
        have hkn : (k : Int) < (n : Int) := by omega
        clear hs g0 g1 g2 hk hkt hfin a2
        obtain ⟨age, full, what⟩ := s
        simp only at d0 d1
        cases full with
        | true =>
          by_cases a4 : age = h / 65536
          · have b4 : (age != h / 65536) = false := by simp [a4]
            have Ha4 := Lib.hid a4
            clear a4
            go_enter Try.func42, Try.ntmps42
            go_wp2
            go_ret
            exact ⟨by rw [Hfin.out, if_pos ⟨trivial, Ha4.out⟩]; rfl, rfl⟩
          · have b4 : (age != h / 65536) = true := by simpa using a4
            have Ha4 := Lib.hid a4
            clear a4
            go_enter Try.func42, Try.ntmps42
            go_wp2
            go_ret
            exact ⟨by rw [Hfin.out, if_neg (fun e => Ha4.out e.2)]; rfl, rfl⟩
        | false =>
          go_enter Try.func42, Try.ntmps42
          go_wp2
          go_ret
          exact ⟨by rw [Hfin.out, if_neg (fun e => by cases e.1)]; rfl, rfl⟩
      · have hfin : atN sl h = none := by
          simp only [atN, if_neg a1, if_neg a2, hkt]
          rw [List.getElem?_eq_none (by rw [hp.len]; omega)]
        have Hfin := Lib.hid hfin
        have hkn : ¬ (k : Int) < (n : Int) := by omega
        clear hk hkt hfin a2
        go_enter Try.func42, Try.ntmps42
        go_wp2
        go_ret
        exact ⟨by rw [Hfin.out]; rfl, rfl⟩
theorem atN_some {sl : List Slot} {h : Int} {k : Nat} (e : atN sl h = some k) : ∃ s, sl[k]? = some s ∧ s.full = true ∧ s.age = h / 65536 ∧ h % 65536 = (k : Int) + 1 ∧ 1 ≤ h := by
  unfold atN at e
  split at e
  · cases e
  · split at e
    · cases e
    · split at e
      · rename_i s hs
        split at e
        · rename_i hc
          simp only [Option.some.injEq] at e
          subst e
          exact ⟨s, hs, hc.1, hc.2, by omega, by omega⟩
        · cases e
      · cases e
theorem PoolAt.slot {w : World} {p sb n : Nat} {sl : List Slot} {many : Int} (hp : PoolAt w p sb n cp ex sl many) {k : Nat} {s : Slot} (h : sl[k]? = some s) :
    w.cell? ⟨sb, k * 3, none⟩ = some (.int .i64 s.age) ∧ w.cell? ⟨sb, k * 3 + 1, none⟩ = some (.bool s.full) ∧ w.cell? ⟨sb, k * 3 + 2, none⟩ = some (.int .i64 s.what) ∧ k < n ∧ 0 ≤ s.age ∧ s.age ≤ 1073741825 ∧ (s.full = true → s.age ≤ 1073741824) := by
  obtain ⟨g0, g1, g2⟩ := slotsX_get ex h
  have hk : k < n := by rw [← hp.len]; exact (List.getElem?_eq_some_iff.1 h).1
  exact ⟨(hp.slots.cell _).trans g0, (hp.slots.cell _).trans g1, (hp.slots.cell _).trans g2, hk, hp.ages s (List.mem_of_getElem? h)⟩
theorem PoolAt.manyB {w : World} {p sb n : Nat} {sl : List Slot} {many : Int} (hp : PoolAt w p sb n cp ex sl many) : 0 ≤ many ∧ many ≤ 1024 := by
  have h1 := hp.many
  have h2 := cnt_le sl
  have h3 := hp.len
  have h4 := hp.room
  omega
/-- A place is turned, and the count with it. -/
theorem PoolAt.set {w w' : World} {p sb n : Nat} {sl : List Slot} {many many' : Int} (hp : PoolAt w p sb n cp ex sl many) {k : Nat} {o s : Slot} (ho : sl[k]? = some o)
    (hs : 0 ≤ s.age ∧ s.age ≤ 1073741825 ∧ (s.full = true → s.age ≤ 1073741824)) (hc : many' + (if o.full then 1 else 0) = many + (if s.full then 1 else 0))
    (h1 : Blk w' p 72 [.slice (some ⟨sb, 0, none⟩) n cp, .int .i64 many']) (h2 : Blk w' sb 77 (slotsX (sl.set k s) ex)) : PoolAt w' p sb n cp ex (sl.set k s) many' := by
  refine ⟨by simpa using hp.len, h1, h2, hp.ne, hp.room, fun x hx => ?_, ?_, hp.cap⟩
  · rcases List.mem_or_eq_of_mem_set hx with hx | rfl
    · exact hp.ages x hx
    · exact hs
  · have := cnt_set sl k s o ho
    have h3 := hp.many
    split at hc <;> split at hc <;> simp_all <;> omega
def getN (sl : List Slot) (h : Int) : Int × Bool :=
  match (atN sl h).bind fun k => sl[k]? with
  | some s => (s.what, true)
  | none => (0, false)
def Pl (p sb : Nat) (k : Nat) : Prop := k = p ∨ k = sb

theorem get_any (h : Int) (p sb n : Nat) (sl : List Slot) (many : Int) (w : World) (hp : PoolAt w p sb n cp ex sl many) (hh : In64 h) :
    Calls Try.prog 19 #[.pointer (some ⟨p, 0, none⟩), .int .i64 h] w fun e w' => e = .returned (.tuple #[.int .i64 (getN sl h).1, .bool (getN sl h).2]) ∧ w = w' := by
  cases hat : atN sl h with
  | none =>
    have hfin : getN sl h = (0, false) := by simp [getN, hat]
    have Hfin := Lib.hid hfin
    have hc := at_any h p sb n sl many w hp hh
    rw [hat] at hc
    clear hfin hat
    go_enter Try.func19, Try.ntmps19
    go_wp2_with fail
    refine hc.mono ?_
    rintro e w' ⟨rfl, rfl⟩
    simp only [Go.Proofs.Ytafljpfephomoaa.spot]
    go_wp2
    go_ret2
    exact ⟨by rw [Hfin.out]; rfl, rfl⟩
  | some k =>
    obtain ⟨s, hs, hf, ha, hm, h1⟩ := atN_some hat
    obtain ⟨d0, d1, d2, hk, _⟩ := hp.slot hs
    have hfin : getN sl h = (s.what, true) := by simp [getN, hat, hs]
    have Hfin := Lib.hid hfin
    have hc := at_any h p sb n sl many w hp hh
    rw [hat] at hc
    clear hfin hat hs hf ha hm
    go_enter Try.func19, Try.ntmps19
    go_wp2_with fail
    refine hc.mono ?_
    rintro e w' ⟨rfl, rfl⟩
    simp only [Go.Proofs.Ytafljpfephomoaa.spot]
    go_wp2
    go_ret2
    exact ⟨by rw [Hfin.out]; rfl, rfl⟩
end Go.Proofs.Ytafljpfephomoaa
