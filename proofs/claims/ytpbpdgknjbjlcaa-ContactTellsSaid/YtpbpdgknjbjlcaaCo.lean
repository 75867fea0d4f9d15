/- Contacts: spots; the first of the greatest; sums over the chosen. -/
import Derived.Test.YtpbpdgknjbjlcaaCk
namespace Go.Proofs.Ytpbpdgknjbjlcaa
open Go.RowKit
structure Sp where
  p : Pt
  d : Int
  id : Int
def Sp.cells (s : Sp) : List Value := [.int .i64 s.p.x, .int .i64 s.p.y, .int .i64 s.p.z, .int .i64 s.d, .int .i64 s.id]
def spCells (l : List Sp) : List Value := l.flatMap Sp.cells
theorem sp_len (l : List Sp) : (spCells l).length = l.length * 5 := flat_len (f := Sp.cells) (fun _ => rfl) l
theorem sp_get {l : List Sp} {j : Nat} {x : Sp} (c : Nat) (h : l[j]? = some x) (hc : c < 5) : (spCells l)[j * 5 + c]? = x.cells[c]? := flat_get (f := Sp.cells) (fun _ => rfl) _ _ _ _ h hc
theorem Rd.sp {w : World} {b off n cap : Nat} {l : List Sp} (h : Rd w (.slice (some ⟨b, off, none⟩) n cap) n 5 (spCells l)) {k : Nat} (hk : k < n) {x : Sp} (hx : l[k]? = some x) :
    w.cell? ⟨b, off + k * 5, none⟩ = some (.int .i64 x.p.x) ∧ w.cell? ⟨b, off + k * 5 + 1, none⟩ = some (.int .i64 x.p.y) ∧ w.cell? ⟨b, off + k * 5 + 2, none⟩ = some (.int .i64 x.p.z) ∧ w.cell? ⟨b, off + k * 5 + 3, none⟩ = some (.int .i64 x.d) ∧ w.cell? ⟨b, off + k * 5 + 4, none⟩ = some (.int .i64 x.id) := by
  have f : ∀ c, c < 5 → w.cell? ⟨b, off + k * 5 + c, none⟩ = x.cells[c]? := fun c hc => by
    have := h.at (i := k * 5 + c) (by omega)
    rw [show off + k * 5 + c = off + (k * 5 + c) by omega, this, sp_get c hx hc]
  exact ⟨f 0 (by decide), f 1 (by decide), f 2 (by decide), f 3 (by decide), f 4 (by decide)⟩
/-- m is the first of the greatest below n. -/
def IsBest (g : Nat → Int) (n m : Nat) : Prop := m < n ∧ (∀ i, i < n → g i ≤ g m) ∧ ∀ i, i < m → g i < g m
theorem best_one {g : Nat → Int} {n a b : Nat} (h : IsBest g n a) (k : IsBest g n b) : a = b := by
  obtain ⟨h1, h2, h3⟩ := h
  obtain ⟨k1, k2, k3⟩ := k
  rcases Nat.lt_trichotomy a b with q | q | q
  · have := k3 a q
    have := h2 b k1
    omega
  · exact q
  · have := h3 b q
    have := k2 a h1
    omega
theorem best_zero (g : Nat → Int) : IsBest g 1 0 := by
  refine ⟨by omega, fun i hi => ?_, fun i hi => by omega⟩
  obtain rfl : i = 0 := by omega
  exact Int.le_refl _
theorem best_yes {g : Nat → Int} {j m : Nat} (h : IsBest g j m) (hg : g m < g j) : IsBest g (j + 1) j :=
  ⟨by omega, fun i hi => by
    rcases Nat.lt_or_ge i j with q | q
    · have := h.2.1 i q; omega
    · obtain rfl : i = j := by omega
      exact Int.le_refl _, fun i hi => by have := h.2.1 i hi; omega⟩
theorem best_no {g : Nat → Int} {j m : Nat} (h : IsBest g j m) (hg : ¬ g m < g j) : IsBest g (j + 1) m :=
  ⟨by have := h.1; omega, fun i hi => by
    rcases Nat.lt_or_ge i j with q | q
    · exact h.2.1 i q
    · obtain rfl : i = j := by omega
      omega, h.2.2⟩
def spAt (l : List Sp) (k : Nat) : Sp := l[k]?.getD ⟨⟨0, 0, 0⟩, 0, 0⟩
theorem spAt_get {l : List Sp} {k : Nat} (h : k < l.length) : l[k]? = some (spAt l k) := by
  unfold spAt
  rw [List.getElem?_eq_getElem h]
  rfl
def dist2 (a b : Pt) : Int := dotP (subP a b) (subP a b)
theorem dist2_range {a b : Pt} (ha : Near 67108864 a) (hb : Near 67108864 b) : 0 ≤ dist2 a b ∧ dist2 a b ≤ 54043195528445952 ∧ Near 134217728 (subP a b) := by
  have hn : Near 134217728 (subP a b) := by
    obtain ⟨⟨a1, a2⟩, ⟨a3, a4⟩, a5, a6⟩ := ha
    obtain ⟨⟨b1, b2⟩, ⟨b3, b4⟩, b5, b6⟩ := hb
    unfold Near subP
    simp only
    omega
  have h := dot_near hn hn
  have h1 := sq_nonneg (subP a b).x
  have h2 := sq_nonneg (subP a b).y
  have h3 := sq_nonneg (subP a b).z
  refine ⟨?_, by unfold dist2; omega, hn⟩
  unfold dist2 dotP
  omega
/-- How far i is from the chosen. -/
def farS (l : List Sp) (C : List Nat) (i : Nat) : Int := C.foldl (fun s k => s + dist2 (spAt l i).p (spAt l k).p) 0
theorem farS_snoc (l : List Sp) (C : List Nat) (i k : Nat) : farS l (C ++ [k]) i = farS l C i + dist2 (spAt l i).p (spAt l k).p := by simp [farS]
theorem spAt_near {l : List Sp} (h : ∀ s ∈ l, Near 67108864 s.p) (k : Nat) : Near 67108864 (spAt l k).p := by
  unfold spAt
  cases hk : l[k]? with
  | none => exact ⟨by decide, by decide, by decide⟩
  | some p => exact h p (List.mem_of_getElem? hk)
theorem farS_acc (l : List Sp) (i : Nat) : ∀ (C : List Nat) (a : Int), C.foldl (fun s k => s + dist2 (spAt l i).p (spAt l k).p) a = a + farS l C i := by
  intro C
  induction C with
  | nil => intro a; simp [farS]
  | cons k C ih =>
    intro a
    have e : farS l (k :: C) i = (0 + dist2 (spAt l i).p (spAt l k).p) + farS l C i := by
      show C.foldl _ (0 + dist2 (spAt l i).p (spAt l k).p) = _
      rw [ih]
    rw [List.foldl_cons, ih, e]
    omega
theorem farS_cons (l : List Sp) (i k : Nat) (C : List Nat) : farS l (k :: C) i = dist2 (spAt l i).p (spAt l k).p + farS l C i := by
  show C.foldl _ (0 + dist2 (spAt l i).p (spAt l k).p) = _
  rw [farS_acc]
  omega
theorem farS_range {l : List Sp} (h : ∀ s ∈ l, Near 67108864 s.p) (i : Nat) (C : List Nat) : 0 ≤ farS l C i ∧ farS l C i ≤ 54043195528445952 * (C.length : Int) := by
  induction C with
  | nil => simp [farS]
  | cons k C ih =>
    rw [farS_cons, List.length_cons]
    have := dist2_range (spAt_near h i) (spAt_near h k)
    omega
theorem farS_perm {l : List Sp} {C D : List Nat} (h : C.Perm D) (i : Nat) : farS l C i = farS l D i := by
  induction h with
  | nil => rfl
  | cons k _ ih => rw [farS_cons, farS_cons, ih]
  | swap a b t => rw [farS_cons, farS_cons, farS_cons, farS_cons]; omega
  | trans _ _ h1 h2 => rw [h1, h2]
def farV (l : List Sp) (C : List Nat) (i : Nat) : Int := if C.contains i then -1 else farS l C i
end Go.Proofs.Ytpbpdgknjbjlcaa
/- Contacts: whether a number is chosen; how deep and how far a spot is. -/
namespace Go.Proofs.Ytpbpdgknjbjlcaa
open Go.RowKit
theorem Rd.idx {w : World} {b off n cap : Nat} {l : List Nat} (h : Rd w (.slice (some ⟨b, off, none⟩) n cap) n 1 (idxCells l)) {k : Nat} (hk : k < n) {x : Nat} (hx : l[k]? = some x) : w.cell? ⟨b, off + k, none⟩ = some (.int .i64 (x : Int)) := by
  rw [h.at (by rw [Nat.mul_one]; exact hk), idx_get hx]
set_option maxRecDepth 100000 in
theorem index54_any (v : Value) (n : Nat) (l : List Nat) (i : Nat) (w : World) (hl : l.length = n) (hv : Rd w v n 1 (idxCells l)) :
    Calls Try.prog 54 #[v, .int .i64 (i : Int)] w fun e w' => (∃ k : Int, e = .returned (.int .i64 k) ∧ -1 ≤ k ∧ k ≤ 9223372036854775807 ∧ decide (0 ≤ k) = l.contains i) ∧ w' = w := by
  obtain ⟨a, c, rfl, c1, c2⟩ := hv.shape
  have Hl := Lib.hid hl
  have Hv := Lib.hid hv
  have hnm : (n : Int) ≤ 9223372036854775807 := by omega
  clear hl hv
  go_enter Try.func54, Try.ntmps54
  go_wp2_with fail
  go_loopw [5, 8] (fun _ j wr => ∃ k : Nat, k ≤ n ∧ j = .int .i64 (k : Int) ∧ Hid ((l.take k).contains i = false) ∧ wr = w) (fun _ j _ => n - (intOf j).toNat)
  case atStart => exact ⟨0, Nat.zero_le _, rfl, Lib.hid (by simp), rfl⟩
  case round =>
    obtain ⟨k, hk, rfl, HA, rfl⟩ := hrel
    by_cases hkn : k < n
    · obtain ⟨x, hx⟩ : ∃ x, l[k]? = some x := ⟨_, List.getElem?_eq_getElem (by rw [Hl.out]; exact hkn)⟩
      obtain ⟨b, off, rfl⟩ := Hv.out.addr (by omega)
      have q0 := Hv.out.idx hkn hx
      have hkI : (k : Int) < (n : Int) := by omega
      have Hx := Lib.hid hx
      clear hx
      by_cases e : i = x
      · subst e
        have HF : Hid (l.contains i = true) := Lib.hid (by
          rw [List.contains_iff_mem]
          exact List.mem_of_getElem? Hx.out)
        go_wp2
        go_ret
        exact ⟨⟨k, rfl, by omega, by omega, by rw [HF.out]; simp⟩, rfl⟩
      · have e1 : ((i : Int) == (x : Int)) = false := by simp; omega
        have e2 : (i == x) = false := by simpa using e
        have HA2 : Hid ((l.take (k + 1)).contains i = false) := Lib.hid (by
          rw [List.take_add_one, Hx.out]
          have := HA.out
          simp only [Option.toList_some, List.contains_eq_mem, List.mem_append, List.mem_singleton, decide_eq_false_iff_not, not_or] at this ⊢
          exact ⟨this, e⟩)
        go_wp2
        go_roundw
        case rel => exact ⟨k + 1, by omega, by go_num, HA2, trivial⟩
        case measure => simp [intOf]; omega
    · obtain rfl : k = n := by omega
      have hall : l.contains i = false := by
        have := HA.out
        rw [← Hl.out, List.take_length] at this
        exact this
      have HF := Lib.hid hall
      clear hall
      go_wp2
      go_ret
      exact ⟨⟨-1, rfl, by omega, by omega, by rw [HF.out]; rfl⟩, rfl⟩
set_option maxRecDepth 100000 in
theorem contains39_any (v : Value) (n : Nat) (l : List Nat) (i : Nat) (w : World) (hl : l.length = n) (hv : Rd w v n 1 (idxCells l)) :
    Calls Try.prog 39 #[v, .int .i64 (i : Int)] w fun e w' => e = .returned (.bool (l.contains i)) ∧ w' = w := by
  go_enter Try.func39, Try.ntmps39
  go_wp2_with fail
  refine (index54_any v n l i w hl hv).mono ?_
  rintro e w2 ⟨⟨k, rfl, k1, k2, hk⟩, rfl⟩
  have HK := Lib.hid hk
  clear hk hl hv
  go_wp2
  go_ret
  exact ⟨ret_bool HK.out, rfl⟩
/-- The slice of spots that a closure holds: its variable, and what it reads, as long as all below the base is as it was. -/
def Lst (base : Nat) (w : World) (bl : Nat) (n : Nat) (l : List Sp) : Prop := ∃ v, ∀ W, Below base w W → W.cell? ⟨bl, 0, none⟩ = some v ∧ Rd W v n 5 (spCells l)
theorem Lst.below {base : Nat} {w w' : World} {bl n : Nat} {l : List Sp} (h : Lst base w bl n l) (hB : Below base w w') : Lst base w' bl n l := by
  obtain ⟨v, h⟩ := h
  exact ⟨v, fun W hW => h W (hB.trans hW)⟩
theorem Lst.get {base : Nat} {w : World} {bl n : Nat} {l : List Sp} (h : Lst base w bl n l) (hn : n ≠ 0) : ∃ b off c, n ≤ c ∧ c ≤ 9223372036854775807 ∧ ∀ W, Below base w W → W.cell? ⟨bl, 0, none⟩ = some (.slice (some ⟨b, off, none⟩) n c) ∧ Rd W (.slice (some ⟨b, off, none⟩) n c) n 5 (spCells l) := by
  obtain ⟨v, h⟩ := h
  have h0 := (h w (Below.refl _ _)).2
  obtain ⟨a, c, rfl, c1, c2⟩ := h0.shape
  obtain ⟨b, off, rfl⟩ := h0.addr hn
  exact ⟨b, off, c, c1, c2, h⟩
set_option maxRecDepth 100000 in
theorem depth41_any (base : Nat) (bl n : Nat) (l : List Sp) (i : Nat) (w : World) (hL : Lst base w bl n l) (hl : l.length = n) (hi : i < n) :
    Calls Try.prog 41 #[.int .i64 (i : Int), .pointer (some ⟨bl, 0, none⟩)] w fun e w' => e = .returned (.int .i64 (spAt l i).d) ∧ w' = w := by
  obtain ⟨b, off, c, c1, c2, hL⟩ := hL.get (by omega)
  obtain ⟨k0, hR⟩ := hL w (Below.refl _ _)
  obtain ⟨-, -, -, p3, -⟩ := hR.sp hi (spAt_get (by rw [hl]; exact hi))
  have hiI : (i : Int) < (n : Int) := by omega
  have hiI0 : (0 : Int) ≤ (i : Int) := by omega
  clear hL hR hl
  generalize (spAt l i).d = D at *
  go_enter Try.func41, Try.ntmps41
  go_wp2
  go_ret
  exact ⟨rfl, rfl⟩
end Go.Proofs.Ytpbpdgknjbjlcaa
/- Contacts: how far a spot is from the chosen. -/
namespace Go.Proofs.Ytpbpdgknjbjlcaa
open Go.RowKit
set_option maxRecDepth 100000 in
theorem far38_any (base bl b3 n T : Nat) (l : List Sp) (C : List Nat) (cv : Value) (i : Nat) (w : World) (hL : Lst base w bl n l) (hl : l.length = n) (hi : i < n) (hbase : base ≤ w.heap.size)
    (hC : Blk w b3 49 [cv]) (hcR : Rd w cv T 1 (idxCells C)) (hT : C.length = T) (hT4 : T ≤ 4) (hCn : ∀ k ∈ C, k < n) (hnear : ∀ s ∈ l, Near 67108864 s.p) :
    Calls Try.prog 38 #[.int .i64 (i : Int), .pointer (some ⟨b3, 0, none⟩), .pointer (some ⟨bl, 0, none⟩)] w fun e w' => e = .returned (.int .i64 (farV l C i)) ∧ Below w.heap.size w w' := by
  obtain ⟨b, off, c, c1, c2, hL⟩ := hL.get (by omega)
  obtain ⟨ca, cc, rfl, d1, d2⟩ := hcR.shape
  have hiI : (i : Int) < (n : Int) := by omega
  have hiI0 : (0 : Int) ≤ (i : Int) := by omega
  have k0 : _ = some (Value.slice ca T cc) := hC.cell 0
  have Hl := Lib.hid hl
  have HLs := Lib.hid hL
  have HC := Lib.hid hC
  have HcR := Lib.hid hcR
  have HT := Lib.hid hT
  have HCn := Lib.hid hCn
  have Hnear := Lib.hid hnear
  clear hl hL hC hcR hT hCn hnear
  go_enter Try.func38, Try.ntmps38
  go_wp2_with fail
  refine (contains39_any _ T C i w HT.out HcR.out).mono ?_
  rintro e w2 ⟨rfl, rfl⟩
  cases hc : C.contains i with
  | true =>
    have HF : Hid (farV l C i = -1) := Lib.hid (by unfold farV; rw [hc]; rfl)
    clear hc
    go_wp2
    go_ret
    exact ⟨ret_int HF.out.symm, Below.refl _ _⟩
  | false =>
    have HF : Hid (farV l C i = farS l C i) := Lib.hid (by unfold farV; rw [hc]; rfl)
    clear hc
    go_upto_block 5 with (fail)
    clear k0
    go_loopg [5, 7, 8, 14] T (fun g s _ _ j wx => ∃ k : Nat, g = T - k ∧ k ≤ T ∧ j = .int .i64 (k : Int) ∧ s = .int .i64 (farS l (C.take k) i) ∧ Below w2.heap.size w2 wx)
    case atStart => exact ⟨0, rfl, Nat.zero_le _, rfl, rfl, Below.refl _ _⟩
    case round =>
      obtain ⟨k, hg, hk, rfl, rfl, hB⟩ := hrel
      by_cases hkT : k < T
      · obtain ⟨x, hx⟩ : ∃ x, C[k]? = some x := ⟨_, List.getElem?_eq_getElem (by rw [HT.out]; exact hkT)⟩
        obtain ⟨cb, coff, rfl⟩ := HcR.out.addr (by omega)
        have hxn : x < n := HCn.out x (List.mem_of_getElem? hx)
        have q0 := (HcR.out.new hB).idx hkT hx
        have hkI : (k : Int) < (T : Int) := by omega
        have hxI : (x : Int) < (n : Int) := by omega
        have hxI0 : (0 : Int) ≤ (x : Int) := by omega
        have hs := hB.size
        obtain ⟨r0, r1⟩ := farS_range Hnear.out i (C.take k)
        have hlk : ((C.take k).length : Int) ≤ 4 := by rw [List.length_take]; omega
        obtain ⟨s0, s1, hsn⟩ := dist2_range (spAt_near Hnear.out i) (spAt_near Hnear.out x)
        have hsn2 : farS l (C.take (k + 1)) i = farS l (C.take k) i + dist2 (spAt l i).p (spAt l x).p := by
          rw [List.take_add_one, hx]
          exact farS_snoc _ _ _ _
        have HP : Hid (∀ W, Below wr.heap.size wr W → (fun W => W.cell? ⟨bl, 0, none⟩ = some (.slice (some ⟨b, off, none⟩) n c) ∧ W.cell? ⟨b, off + i * 5, none⟩ = some (.int .i64 (spAt l i).p.x) ∧ W.cell? ⟨b, off + i * 5 + 1, none⟩ = some (.int .i64 (spAt l i).p.y) ∧ W.cell? ⟨b, off + i * 5 + 2, none⟩ = some (.int .i64 (spAt l i).p.z) ∧ W.cell? ⟨b, off + x * 5, none⟩ = some (.int .i64 (spAt l x).p.x) ∧ W.cell? ⟨b, off + x * 5 + 1, none⟩ = some (.int .i64 (spAt l x).p.y) ∧ W.cell? ⟨b, off + x * 5 + 2, none⟩ = some (.int .i64 (spAt l x).p.z) ∧ Below wr.heap.size wr W) W) := Lib.hid fun W hW => by
          obtain ⟨m0, mR⟩ := HLs.out W ((hB.trans (hW.mono hs)).mono hbase)
          obtain ⟨a0, a1, a2, -⟩ := mR.sp hi (spAt_get (by rw [Hl.out]; exact hi))
          obtain ⟨b0, b1, b2, -⟩ := mR.sp hxn (spAt_get (by rw [Hl.out]; exact hxn))
          exact ⟨m0, a0, a1, a2, b0, b1, b2, hW⟩
        have HM : Hid (∀ W, Calls Try.prog 37 #[ptV (spAt l i).p, ptV (spAt l x).p] W fun e w' => e = .returned (ptV (subP (spAt l i).p (spAt l x).p)) ∧ Below W.heap.size W w') := Lib.hid fun W => minus37_any _ _ W (near_mono (spAt_near Hnear.out i) (by decide)) (near_mono (spAt_near Hnear.out x) (by decide))
        have HD : Hid (∀ W, Calls Try.prog 12 #[ptV (subP (spAt l i).p (spAt l x).p), ptV (subP (spAt l i).p (spAt l x).p)] W fun e w' => e = .returned (.int .i64 (dist2 (spAt l i).p (spAt l x).p)) ∧ Below W.heap.size W w') := Lib.hid fun W => dot12_any _ _ W hsn hsn
        have Hsn2 := Lib.hid hsn2
        have HB := Lib.hid hB
        have Hg := Lib.hid hg
        generalize subP (spAt l i).p (spAt l x).p = df at *
        generalize dist2 (spAt l i).p (spAt l x).p = dd at *
        generalize farS l (C.take k) i = fs at *
        generalize spAt l i = pi at *
        generalize spAt l x = px at *
        have hbd : fs + dd ≤ 9223372036854775807 := by omega
        clear hx hB hsn hsn2 hg
        go_upto_region 7 with (fail)
        clear q0
        go_cut [8] (fun v8 wx => ∃ b8 : Nat, v8 = .pointer (some ⟨b8, 0, none⟩) ∧ Blk wx b8 26 df.cells ∧ Below wr.heap.size wr wx)
        case first =>
          go_region_held3 (fun W => W.cell? ⟨bl, 0, none⟩ = some (.slice (some ⟨b, off, none⟩) n c) ∧ W.cell? ⟨b, off + i * 5, none⟩ = some (.int .i64 pi.p.x) ∧ W.cell? ⟨b, off + i * 5 + 1, none⟩ = some (.int .i64 pi.p.y) ∧ W.cell? ⟨b, off + i * 5 + 2, none⟩ = some (.int .i64 pi.p.z) ∧ W.cell? ⟨b, off + x * 5, none⟩ = some (.int .i64 px.p.x) ∧ W.cell? ⟨b, off + x * 5 + 1, none⟩ = some (.int .i64 px.p.y) ∧ W.cell? ⟨b, off + x * 5 + 2, none⟩ = some (.int .i64 px.p.z) ∧ Below wr.heap.size wr W)
            (first
              | exact HP.out _ (Below.refl wr.heap.size wr).drew
              | exact HP.out _ ((Below.refl wr.heap.size wr).drew.trans hBm)
              | exact HP.out _ (((Below.refl wr.heap.size wr).drew.trans hBm).alloc hBm.size _)
              | exact HP.out _ ((Below.refl wr.heap.size wr).alloc (Nat.le_refl _) _).drew
              | exact HP.out _ (((Below.refl wr.heap.size wr).alloc (Nat.le_refl _) _).drew.trans (hBm.mono (by simp)))
              | exact HP.out _ ((((((Below.refl wr.heap.size wr).alloc (Nat.le_refl _) _).drew.trans (hBm.mono (by simp))).setCell (p := ⟨wr.heap.size, 0, none⟩) (Nat.le_refl _) _).setCell (p := ⟨wr.heap.size, 1, none⟩) (Nat.le_refl _) _).setCell (p := ⟨wr.heap.size, 2, none⟩) (Nat.le_refl _) _))
            ((go_at_call 37; refine (HM.out _).mono ?_; rintro e wm ⟨rfl, hBm⟩
              first
                | (have hz := ((Blk.new wr 26 [.int .i64 0, .int .i64 0, .int .i64 0]).drew).below hBm (by simp)
                   have z0 := hz.cell 0
                   have z1 := hz.cell 1
                   have z2 := hz.cell 2
                   have y0 := hz.frozen 0
                   have y1 := hz.frozen 1
                   have y2 := hz.frozen 2
                   simp only [List.getElem?_cons_zero, List.getElem?_cons_succ] at z0 z1 z2)
                | skip))
          all_goals (first | go_wp2 | skip)
          all_goals go_meet
          all_goals
            first
              | exact ⟨_, rfl, ((hz.set 0 _).set 1 _).set 2 _, (((((Below.refl wr.heap.size wr).alloc (Nat.le_refl _) _).drew.trans (hBm.mono (by simp))).setCell (p := ⟨wr.heap.size, 0, none⟩) (Nat.le_refl _) _).setCell (p := ⟨wr.heap.size, 1, none⟩) (Nat.le_refl _) _).setCell (p := ⟨wr.heap.size, 2, none⟩) (Nat.le_refl _) _⟩
              | exact ⟨_, rfl, Blk.new wm 26 df.cells, ((Below.refl wr.heap.size wr).drew.trans hBm).alloc hBm.size _⟩
        case rest =>
          obtain ⟨b8, rfl, hb8, hB8⟩ := hcut
          have HB8 := Lib.hid (HB.out.trans (hB8.mono hs))
          have e0 : _ = some (Value.int .i64 df.x) := hb8.cell 0
          have e1 : _ = some (Value.int .i64 df.y) := hb8.cell 1
          have e2 : _ = some (Value.int .i64 df.z) := hb8.cell 2
          clear hB8 hb8
          go_wp2_with fail
          refine (HD.out _).mono ?_
          rintro e w5 ⟨rfl, hB5⟩
          have HB5 := Lib.hid (HB8.out.trans (hB5.mono HB8.out.size))
          clear hB5 e0 e1 e2
          go_wp2
          go_roundg (T - (k + 1))
          case rel => exact ⟨k + 1, rfl, by omega, by go_num, by rw [Hsn2.out], HB5.out⟩
          case measure => have := Hg.out; omega
      · obtain rfl : k = T := by omega
        have hall : C.take k = C := by rw [← HT.out, List.take_length]
        rw [hall]
        generalize farS l C i = V at *
        have HB := Lib.hid hB
        clear hB hall
        go_wp2
        go_ret
        exact ⟨ret_int HF.out.symm, HB.out⟩
end Go.Proofs.Ytpbpdgknjbjlcaa
/- Contacts: the best one is chosen. -/
namespace Go.Proofs.Ytpbpdgknjbjlcaa
open Go.RowKit
/-- The variable that holds the chosen. -/
def Cho (base : Nat) (w : World) (b3 : Nat) (C : List Nat) : Prop := ∃ cv, Blk w b3 49 [cv] ∧ w.ownsRow base 3 1 cv C.length (idxCells C)
theorem Cho.below {base : Nat} {w w' : World} {b3 : Nat} {C : List Nat} (h : Cho base w b3 C) (hB : Below w.heap.size w w') : Cho base w' b3 C := by
  obtain ⟨cv, h1, h2⟩ := h
  exact ⟨cv, h1.below hB h1.lt, own_new h2 hB⟩
set_option maxRecDepth 100000 in
theorem best40_A (base bl b3 n : Nat) (l : List Sp) (C : List Nat) (w : World) (hL : Lst base w bl n l) (hl : l.length = n) (hn : 1 ≤ n) (hbase : base ≤ w.heap.size) (hbb : base ≤ b3) (hC : Cho base w b3 C) (hC8 : C.length ≤ 8) :
    Calls Try.prog 40 #[(.func (.func 41) #[] #[.pointer (some ⟨bl, 0, none⟩)]), .pointer (some ⟨bl, 0, none⟩), .pointer (some ⟨b3, 0, none⟩)] w fun e w' => e = .returned (.tuple #[]) ∧ (∃ m, IsBest (fun i => (spAt l i).d) n m ∧ Cho base w' b3 (C ++ [m])) ∧ Below base w w' := by
  obtain ⟨cv, hb3, hown⟩ := hC
  obtain ⟨g, hg⟩ : ∃ g : Nat → Int, g = (fun i => (spAt l i).d) := ⟨_, rfl⟩
  rw [← hg]
  have HG : Hid (∀ W i, Below w.heap.size w W → i < n → Calls Try.prog 41 #[.int .i64 (i : Int), .pointer (some ⟨bl, 0, none⟩)] W fun e w' => e = .returned (.int .i64 (g i)) ∧ Below W.heap.size W w') := Lib.hid fun W i hW hi => by
    refine (depth41_any base bl n l i W (hL.below (hW.mono hbase)) hl hi).mono ?_
    rintro e w' ⟨rfl, rfl⟩
    exact ⟨by rw [hg], Below.refl _ _⟩
  obtain ⟨i0, hi, hz0, hz1, hz2⟩ := info_parts info3
  obtain ⟨b, off, c, c1, c2, hL2⟩ := hL.get (by omega)
  have k0 := (hL2 w (Below.refl _ _)).1
  have Hb3 := Lib.hid hb3
  have Hown := Lib.hid hown
  have hnI : (n : Int) ≤ 9223372036854775807 := by omega
  clear hL hL2 hl hb3 hown hg
  go_enter Try.func40, Try.ntmps40
  go_upto_block 2 with (fail)
  clear k0
  go_loopw [4, 5, 8] (fun a _ i wr => ∃ k m : Nat, k ≤ n ∧ i = .int .i64 (k : Int) ∧ a = .int .i64 (m : Int) ∧ m < n ∧ Hid ((k = 0 ∧ m = 0) ∨ IsBest g k m) ∧ Below w.heap.size w wr) (fun _ _ i _ => n - (intOf i).toNat)
  case atStart => exact ⟨0, 0, Nat.zero_le _, rfl, rfl, by omega, Lib.hid (.inl ⟨rfl, rfl⟩), Below.refl _ _⟩
  case round =>
    obtain ⟨k, m, hk, rfl, rfl, hm, HI, hB⟩ := hrel
    by_cases hkn : k < n
    · have hkI : (k : Int) < (n : Int) := by omega
      have HB := Lib.hid hB
      have hs := hB.size
      clear hB
      go_wp2_with fail
      refine (HG.out wr k HB.out hkn).mono ?_
      rintro e w2 ⟨rfl, hB2⟩
      have HB2 := Lib.hid (HB.out.trans (hB2.mono hs))
      clear hB2
      go_wp2_with fail
      refine (HG.out w2 m HB2.out hm).mono ?_
      rintro e w3 ⟨rfl, hB3⟩
      have HB3 := Lib.hid (HB2.out.trans (hB3.mono HB2.out.size))
      clear hB3
      by_cases hgt : g m < g k
      · have HI2 : Hid ((k + 1 = 0 ∧ k = 0) ∨ IsBest g (k + 1) k) := Lib.hid (.inr (by
          rcases HI.out with ⟨rfl, rfl⟩ | h
          · omega
          · exact best_yes h hgt))
        go_wp2
        go_roundw
        case rel => exact ⟨k + 1, k, by omega, by go_num, rfl, hkn, HI2, HB3.out⟩
        case measure => simp [intOf]; omega
      · have HI2 : Hid ((k + 1 = 0 ∧ m = 0) ∨ IsBest g (k + 1) m) := Lib.hid (.inr (by
          rcases HI.out with ⟨rfl, rfl⟩ | h
          · exact best_zero g
          · exact best_no h hgt))
        go_wp2
        go_roundw
        case rel => exact ⟨k + 1, m, by omega, by go_num, rfl, hm, HI2, HB3.out⟩
        case measure => simp [intOf]; omega
    · obtain rfl : k = n := by omega
      have HI2 : Hid (IsBest g k m) := Lib.hid (by
        rcases HI.out with ⟨rfl, rfl⟩ | h
        · omega
        · exact h)
      have hb3 := Hb3.out.below hB Hb3.out.lt
      have hown := own_new Hown.out hB
      have c0 : _ = some cv := hb3.cell 0
      have f0 := hb3.frozen 0
      have hne : ∀ r cur, cv.ownBlock = some r → wr.heap[r]? = some (.cells cur 3 (0, 0)) → r ≠ b3 := fun r cur _ h2 => blk_ne_cells hb3 h2 (by decide)
      have hne2 : ∀ r, cv.ownBlock = some r → r ≠ b3 := by
        intro r hr
        rcases hown.2 with ⟨rfl, _⟩ | ⟨gg, cap, cur, rfl, _, hh, _⟩
        · simp [Value.ownBlock] at hr
        · have : gg = r := by simpa [Value.ownBlock] using hr
          subst this
          exact hne gg cur hr hh
      have hs := hB.size
      have l3 := hb3.lt
      have Hne2 := Lib.hid hne2
      have hlen := hC8
      obtain ⟨T, hT⟩ : ∃ T, T = C.length := ⟨_, rfl⟩
      rw [← hT] at hown hlen
      have HT := Lib.hid hT
      clear hne hne2 hT
      go_wp2_with (at_builtin; refine wpList_append_own _ rfl _ _ 49 rfl base 3 i0 (.int .i64 0) 1 8 Try.underlying49 hi hz0 hz1 hz2 rfl (by decide) _ _ _ rfl (hown.alloc _) ⟨wr.heap.size, 0, none⟩ 1 1 [.int .i64 m] rfl rfl (cell_one_new _ _ _) (by simp [Value.oneCell']) (by unfold maxLen; omega) (by omega) (by simp; omega) ?_; intro v' w7 hown' hgrow _
                   obtain ⟨ao7, cap7, rfl, -, -, -⟩ := own_clip hown'
                   have hb7 := (hb3.alloc (.cells #[.int .i64 (m : Int)] 3)).grown hgrow (fun e => Hne2.out b3 e rfl)
                   have c7 : _ = some cv := hb7.cell 0
                   have f7 := hb7.frozen 0)
      refine bodyPost_end (results_none rfl _ _ _) rfl ?_
      have hB7 : Below base w w7 := ((hB.mono hbase).alloc (by omega) (.cells #[.int .i64 (m : Int)] 3)).grown hgrow (by simp; omega) (fun r hr => ownBlock_ge hown hr)
      refine ⟨rfl, ⟨m, HI2.out, .slice ao7 (T + 1) cap7, hb7.set 0 _, ?_⟩, hB7.setCell (p := ⟨b3, 0, none⟩) hbb _⟩
      have hown8 : w7.ownsRow base 3 1 (.slice ao7 (T + 1) cap7) (C ++ [m]).length (idxCells (C ++ [m])) := by
        rw [List.length_append, List.length_singleton, ← HT.out]
        simpa [idxCells] using hown'
      exact own_keep hown8 (fun r cur hr hh => Below.heap_setCell w7 ⟨b3, 0, none⟩ _ r (blk_ne_cells hb7 hh (by decide)))
set_option maxRecDepth 100000 in
theorem best40_B (base bl b3 n : Nat) (l : List Sp) (C : List Nat) (w : World) (hL : Lst base w bl n l) (hl : l.length = n) (hn : 1 ≤ n) (hbase : base ≤ w.heap.size) (hbb : base ≤ b3) (hC : Cho base w b3 C) (hC8 : C.length ≤ 8) (hT4 : C.length ≤ 4) (hCn : ∀ k ∈ C, k < n) (hnear : ∀ s ∈ l, Near 67108864 s.p) :
    Calls Try.prog 40 #[(.func (.func 38) #[] #[.pointer (some ⟨b3, 0, none⟩), .pointer (some ⟨bl, 0, none⟩)]), .pointer (some ⟨bl, 0, none⟩), .pointer (some ⟨b3, 0, none⟩)] w fun e w' => e = .returned (.tuple #[]) ∧ (∃ m, IsBest (farV l C) n m ∧ Cho base w' b3 (C ++ [m])) ∧ Below base w w' := by
  obtain ⟨cv, hb3, hown⟩ := hC
  obtain ⟨g, hg⟩ : ∃ g : Nat → Int, g = (farV l C) := ⟨_, rfl⟩
  rw [← hg]
  have HG : Hid (∀ W i, Below w.heap.size w W → i < n → Calls Try.prog 38 #[.int .i64 (i : Int), .pointer (some ⟨b3, 0, none⟩), .pointer (some ⟨bl, 0, none⟩)] W fun e w' => e = .returned (.int .i64 (g i)) ∧ Below W.heap.size W w') := Lib.hid fun W i hW hi => by
    rw [hg]
    exact far38_any base bl b3 n C.length l C cv i W (hL.below (hW.mono hbase)) hl hi (Nat.le_trans hbase hW.size) (hb3.below hW hb3.lt) (Rd.of_own (own_new hown hW)) rfl hT4 hCn hnear
  obtain ⟨i0, hi, hz0, hz1, hz2⟩ := info_parts info3
  obtain ⟨b, off, c, c1, c2, hL2⟩ := hL.get (by omega)
  have k0 := (hL2 w (Below.refl _ _)).1
  have Hb3 := Lib.hid hb3
  have Hown := Lib.hid hown
  have hnI : (n : Int) ≤ 9223372036854775807 := by omega
  clear hL hL2 hl hb3 hown hg hCn hnear
  go_enter Try.func40, Try.ntmps40
  go_upto_block 2 with (fail)
  clear k0
  go_loopw [4, 5, 8] (fun a _ i wr => ∃ k m : Nat, k ≤ n ∧ i = .int .i64 (k : Int) ∧ a = .int .i64 (m : Int) ∧ m < n ∧ Hid ((k = 0 ∧ m = 0) ∨ IsBest g k m) ∧ Below w.heap.size w wr) (fun _ _ i _ => n - (intOf i).toNat)
  case atStart => exact ⟨0, 0, Nat.zero_le _, rfl, rfl, by omega, Lib.hid (.inl ⟨rfl, rfl⟩), Below.refl _ _⟩
  case round =>
    obtain ⟨k, m, hk, rfl, rfl, hm, HI, hB⟩ := hrel
    by_cases hkn : k < n
    · have hkI : (k : Int) < (n : Int) := by omega
      have HB := Lib.hid hB
      have hs := hB.size
      clear hB
      go_wp2_with fail
      refine (HG.out wr k HB.out hkn).mono ?_
      rintro e w2 ⟨rfl, hB2⟩
      have HB2 := Lib.hid (HB.out.trans (hB2.mono hs))
      clear hB2
      go_wp2_with fail
      refine (HG.out w2 m HB2.out hm).mono ?_
      rintro e w3 ⟨rfl, hB3⟩
      have HB3 := Lib.hid (HB2.out.trans (hB3.mono HB2.out.size))
      clear hB3
      by_cases hgt : g m < g k
      · have HI2 : Hid ((k + 1 = 0 ∧ k = 0) ∨ IsBest g (k + 1) k) := Lib.hid (.inr (by
          rcases HI.out with ⟨rfl, rfl⟩ | h
          · omega
          · exact best_yes h hgt))
        go_wp2
        go_roundw
        case rel => exact ⟨k + 1, k, by omega, by go_num, rfl, hkn, HI2, HB3.out⟩
        case measure => simp [intOf]; omega
      · have HI2 : Hid ((k + 1 = 0 ∧ m = 0) ∨ IsBest g (k + 1) m) := Lib.hid (.inr (by
          rcases HI.out with ⟨rfl, rfl⟩ | h
          · exact best_zero g
          · exact best_no h hgt))
        go_wp2
        go_roundw
        case rel => exact ⟨k + 1, m, by omega, by go_num, rfl, hm, HI2, HB3.out⟩
        case measure => simp [intOf]; omega
    · obtain rfl : k = n := by omega
      have HI2 : Hid (IsBest g k m) := Lib.hid (by
        rcases HI.out with ⟨rfl, rfl⟩ | h
        · omega
        · exact h)
      have hb3 := Hb3.out.below hB Hb3.out.lt
      have hown := own_new Hown.out hB
      have c0 : _ = some cv := hb3.cell 0
      have f0 := hb3.frozen 0
      have hne : ∀ r cur, cv.ownBlock = some r → wr.heap[r]? = some (.cells cur 3 (0, 0)) → r ≠ b3 := fun r cur _ h2 => blk_ne_cells hb3 h2 (by decide)
      have hne2 : ∀ r, cv.ownBlock = some r → r ≠ b3 := by
        intro r hr
        rcases hown.2 with ⟨rfl, _⟩ | ⟨gg, cap, cur, rfl, _, hh, _⟩
        · simp [Value.ownBlock] at hr
        · have : gg = r := by simpa [Value.ownBlock] using hr
          subst this
          exact hne gg cur hr hh
      have hs := hB.size
      have l3 := hb3.lt
      have Hne2 := Lib.hid hne2
      have hlen := hC8
      obtain ⟨T, hT⟩ : ∃ T, T = C.length := ⟨_, rfl⟩
      rw [← hT] at hown hlen
      have HT := Lib.hid hT
      clear hne hne2 hT
      go_wp2_with (at_builtin; refine wpList_append_own _ rfl _ _ 49 rfl base 3 i0 (.int .i64 0) 1 8 Try.underlying49 hi hz0 hz1 hz2 rfl (by decide) _ _ _ rfl (hown.alloc _) ⟨wr.heap.size, 0, none⟩ 1 1 [.int .i64 m] rfl rfl (cell_one_new _ _ _) (by simp [Value.oneCell']) (by unfold maxLen; omega) (by omega) (by simp; omega) ?_; intro v' w7 hown' hgrow _
                   obtain ⟨ao7, cap7, rfl, -, -, -⟩ := own_clip hown'
                   have hb7 := (hb3.alloc (.cells #[.int .i64 (m : Int)] 3)).grown hgrow (fun e => Hne2.out b3 e rfl)
                   have c7 : _ = some cv := hb7.cell 0
                   have f7 := hb7.frozen 0)
      refine bodyPost_end (results_none rfl _ _ _) rfl ?_
      have hB7 : Below base w w7 := ((hB.mono hbase).alloc (by omega) (.cells #[.int .i64 (m : Int)] 3)).grown hgrow (by simp; omega) (fun r hr => ownBlock_ge hown hr)
      refine ⟨rfl, ⟨m, HI2.out, .slice ao7 (T + 1) cap7, hb7.set 0 _, ?_⟩, hB7.setCell (p := ⟨b3, 0, none⟩) hbb _⟩
      have hown8 : w7.ownsRow base 3 1 (.slice ao7 (T + 1) cap7) (C ++ [m]).length (idxCells (C ++ [m])) := by
        rw [List.length_append, List.length_singleton, ← HT.out]
        simpa [idxCells] using hown'
      exact own_keep hown8 (fun r cur hr hh => Below.heap_setCell w7 ⟨b3, 0, none⟩ _ r (blk_ne_cells hb7 hh (by decide)))
end Go.Proofs.Ytpbpdgknjbjlcaa
