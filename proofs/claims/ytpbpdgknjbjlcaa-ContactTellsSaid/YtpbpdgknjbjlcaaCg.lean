/- Contacts: the places of the foremost points; the reference's front. -/
import Derived.Test.YtpbpdgknjbjlcaaCf
namespace Go.Proofs.Ytpbpdgknjbjlcaa
open Go.RowKit
def frontL (f : Pt → Bool) (l : List Pt) : List Nat := (l.zipIdx.filter (fun q => f q.1)).map (fun q => q.2)
def idxCells (l : List Nat) : List Value := l.map (fun k : Nat => Value.int .i64 (k : Int))
theorem idx_len (l : List Nat) : (idxCells l).length = l.length := by simp [idxCells]
theorem idx_get {l : List Nat} {j k : Nat} (h : l[j]? = some k) : (idxCells l)[j]? = some (.int .i64 (k : Int)) := by simp [idxCells, h]
theorem frontL_nil (f : Pt → Bool) : frontL f [] = [] := rfl
theorem frontL_snoc (f : Pt → Bool) (l : List Pt) (p : Pt) : frontL f (l ++ [p]) = frontL f l ++ (if f p then [l.length] else []) := by
  unfold frontL
  rw [List.zipIdx_append, List.filter_append, List.map_append]
  cases h : f p <;> simp [h]
theorem frontL_len (f : Pt → Bool) (l : List Pt) : (frontL f l).length ≤ l.length := by
  unfold frontL
  rw [List.length_map]
  exact Nat.le_trans (List.length_filter_le _ _) (by simp)
theorem frontL_lt {f : Pt → Bool} {l : List Pt} {k : Nat} (h : k ∈ frontL f l) : k < l.length ∧ ∃ p, l[k]? = some p ∧ f p = true := by
  unfold frontL at h
  obtain ⟨⟨p, i⟩, hm, rfl⟩ := List.mem_map.1 h
  obtain ⟨h1, h2⟩ := List.mem_filter.1 hm
  have h3 := List.mem_zipIdx_iff_getElem?.1 h1
  exact ⟨(List.getElem?_eq_some_iff.1 h3).1, p, h3, h2⟩
theorem frontL_mem {f : Pt → Bool} {l : List Pt} {k : Nat} {p : Pt} (h : l[k]? = some p) (hf : f p = true) : k ∈ frontL f l := by
  unfold frontL
  exact List.mem_map.2 ⟨(p, k), List.mem_filter.2 ⟨List.mem_zipIdx_iff_getElem?.2 h, hf⟩, rfl⟩
theorem hiP_le (n : Pt) : ∀ (l : List Pt) (x : Pt) (p : Pt), p ∈ x :: l → dotP n p ≤ hiP n x l
  | [], x, p, h => by simp at h; subst h; exact Int.le_refl _
  | y :: l, x, p, h => by
    have hf : ∀ (l : List Pt) (a b : Int), a ≤ b → a ≤ l.foldl (fun m p => max m (dotP n p)) b := by
      intro l
      induction l with
      | nil => intro a b h; exact h
      | cons z l ih => intro a b h; exact ih _ _ (Int.le_trans h (Int.le_max_left _ _))
    have hm : ∀ (l : List Pt) (b : Int) (p : Pt), p ∈ l → dotP n p ≤ l.foldl (fun m p => max m (dotP n p)) b := by
      intro l
      induction l with
      | nil => intro b p h; cases h
      | cons z l ih =>
        intro b p h
        rcases List.mem_cons.1 h with rfl | h
        · exact hf l _ _ (Int.le_max_right _ _)
        · exact ih _ _ h
    unfold hiP
    rcases List.mem_cons.1 h with rfl | h
    · exact hf _ _ _ (by omega)
    · exact hm _ _ _ h
theorem loP_le (n : Pt) : ∀ (l : List Pt) (x : Pt) (p : Pt), p ∈ x :: l → loP n x l ≤ dotP n p
  | [], x, p, h => by simp at h; subst h; exact Int.le_refl _
  | y :: l, x, p, h => by
    have hf : ∀ (l : List Pt) (a b : Int), b ≤ a → l.foldl (fun m p => min m (dotP n p)) b ≤ a := by
      intro l
      induction l with
      | nil => intro a b h; exact h
      | cons z l ih => intro a b h; exact ih _ _ (Int.le_trans (Int.min_le_left _ _) h)
    have hm : ∀ (l : List Pt) (b : Int) (p : Pt), p ∈ l → l.foldl (fun m p => min m (dotP n p)) b ≤ dotP n p := by
      intro l
      induction l with
      | nil => intro b p h; cases h
      | cons z l ih =>
        intro b p h
        rcases List.mem_cons.1 h with rfl | h
        · exact hf l _ _ (Int.min_le_right _ _)
        · exact ih _ _ h
    unfold loP
    rcases List.mem_cons.1 h with rfl | h
    · exact hf _ _ _ (by omega)
    · exact hm _ _ _ h
theorem hiP_at (n : Pt) : ∀ (l : List Pt) (x : Pt), ∃ p ∈ x :: l, dotP n p = hiP n x l := by
  have hf : ∀ (l : List Pt) (x : Pt), ∃ p ∈ x :: l, dotP n p = l.foldl (fun m p => max m (dotP n p)) (dotP n x) := by
    intro l
    induction l with
    | nil => intro x; exact ⟨x, by simp, rfl⟩
    | cons z l ih =>
      intro x
      rcases Int.le_total (dotP n x) (dotP n z) with h | h
      · obtain ⟨p, hp, e⟩ := ih z
        exact ⟨p, List.mem_cons_of_mem _ hp, by rw [List.foldl_cons, Int.max_eq_right h]; exact e⟩
      · obtain ⟨p, hp, e⟩ := ih x
        refine ⟨p, ?_, by rw [List.foldl_cons, Int.max_eq_left h]; exact e⟩
        rcases List.mem_cons.1 hp with rfl | hp
        · exact List.mem_cons_self ..
        · exact List.mem_cons_of_mem _ (List.mem_cons_of_mem _ hp)
  exact hf
theorem loP_at (n : Pt) : ∀ (l : List Pt) (x : Pt), ∃ p ∈ x :: l, dotP n p = loP n x l := by
  have hf : ∀ (l : List Pt) (x : Pt), ∃ p ∈ x :: l, dotP n p = l.foldl (fun m p => min m (dotP n p)) (dotP n x) := by
    intro l
    induction l with
    | nil => intro x; exact ⟨x, by simp, rfl⟩
    | cons z l ih =>
      intro x
      rcases Int.le_total (dotP n x) (dotP n z) with h | h
      · obtain ⟨p, hp, e⟩ := ih x
        refine ⟨p, ?_, by rw [List.foldl_cons, Int.min_eq_left h]; exact e⟩
        rcases List.mem_cons.1 hp with rfl | hp
        · exact List.mem_cons_self ..
        · exact List.mem_cons_of_mem _ (List.mem_cons_of_mem _ hp)
      · obtain ⟨p, hp, e⟩ := ih z
        exact ⟨p, List.mem_cons_of_mem _ hp, by rw [List.foldl_cons, Int.min_eq_right h]; exact e⟩
  exact hf
theorem dot24 {d p : Pt} (hd : Near 16777216 d) (hp : Near 16777216 p) : -844424930131968 ≤ dotP d p ∧ dotP d p ≤ 844424930131968 := dot_near hd hp
theorem hi24 {d x : Pt} {l : List Pt} (hd : Near 16777216 d) (hp : ∀ p ∈ x :: l, Near 16777216 p) : -844424930131968 ≤ hiP d x l ∧ hiP d x l ≤ 844424930131968 := by
  obtain ⟨p, hm, e⟩ := hiP_at d l x
  rw [← e]
  exact dot24 hd (hp p hm)
theorem lo24 {d x : Pt} {l : List Pt} (hd : Near 16777216 d) (hp : ∀ p ∈ x :: l, Near 16777216 p) : -844424930131968 ≤ loP d x l ∧ loP d x l ≤ 844424930131968 := by
  obtain ⟨p, hm, e⟩ := loP_at d l x
  rw [← e]
  exact dot24 hd (hp p hm)
/-- Whether a point is at the greatest end, at the least end. -/
def atHi (d : Pt) (hi up : Int) (p : Pt) : Bool := decide (hi - dotP d p ≤ 8 * up)
def atLo (d : Pt) (lo up : Int) (p : Pt) : Bool := decide (dotP d p - lo ≤ 8 * up)
theorem info3 : (Try.prog.info? 3).map (fun i => (i.zero, i.size, i.bytes)) = some (some (.int .i64 0), 1, 8) := by kernel_rfl
theorem own_base {w : World} {base base' e : Nat} {v : Value} {n sz : Nat} {xs : List Value} (h : w.ownsRow base e sz v n xs) (hb : base' ≤ base) : w.ownsRow base' e sz v n xs := by
  obtain ⟨h1, h2⟩ := h
  rcases h2 with ⟨rfl, rfl⟩ | ⟨g, cap, cur, rfl, hg, r⟩
  · exact ⟨h1, .inl ⟨rfl, rfl⟩⟩
  · exact ⟨h1, .inr ⟨g, cap, cur, rfl, Nat.le_trans hb hg, r⟩⟩
set_option maxRecDepth 100000 in
theorem front23_hi (pv av ev : Value) (r : Int) (n : Nat) (l : List Pt) (x : Pt) (d : Pt) (up : Int) (w : World) (hl : (x :: l).length = n) (hn : n ≤ 100) (hv : Rd w pv n 3 (ptCells (x :: l))) (hd : Near 16777216 d) (hp : ∀ p ∈ x :: l, Near 16777216 p) (hu : 0 ≤ up ∧ up ≤ 67108864) :
    Calls Try.prog 23 #[corV pv av ev r, ptV d, .int .i64 up, .bool true] w fun e w' => (∃ v, e = .returned v ∧ w'.ownsRow w.heap.size 3 1 v (frontL (atHi d (hiP d x l) up) (x :: l)).length (idxCells (frontL (atHi d (hiP d x l) up) (x :: l)))) ∧ Below w.heap.size w w' := by
  obtain ⟨a, c, rfl, c1, c2⟩ := hv.shape
  obtain ⟨b, off, rfl⟩ := hv.addr (by simp at hl; omega)
  have B0 : Below w.heap.size w ((w.alloc (.cells [.slice (some ⟨b, off, none⟩) n c, av, ev, .int .i64 r].toArray 24)).alloc (.cells d.cells.toArray 26)) := ((Below.refl _ w).alloc (Nat.le_refl _) _).alloc (by simp) _
  have hbk := (Blk.newAt (w := w) (b := w.heap.size) rfl 24 [.slice (some ⟨b, off, none⟩) n c, av, ev, .int .i64 r]).alloc (.cells d.cells.toArray 26)
  have hbd := Blk.newAt (w := w.alloc (.cells [.slice (some ⟨b, off, none⟩) n c, av, ev, .int .i64 r].toArray 24)) (b := w.heap.size + 1) (by simp) 26 d.cells
  have Hl := Lib.hid hl
  have Hd0 := Lib.hid hd
  have Hp0 := Lib.hid hp
  have Hd := Lib.hid (near_mono (M := 67108864) hd (by decide))
  have Hp := Lib.hid (fun p hm => near_mono (M := 67108864) (hp p hm) (by decide))
  have hn1 : 1 ≤ n := by simp at hl; omega
  have hnI : (0 : Int) < (n : Int) := by omega
  have Hv0 := Lib.hid hv
  obtain ⟨H, hH⟩ : ∃ H, H = hiP d x l := ⟨_, rfl⟩
  have hH24 := hi24 hd hp
  rw [← hH] at hH24 ⊢
  obtain ⟨u0, u1⟩ := hu
  obtain ⟨H0, H1⟩ := hH24
  have e8 := IntWalk.i64_in (8 * up) (by omega)
  have HH := Lib.hid hH
  obtain ⟨i0, hi, hz0, hz1, hz2⟩ := info_parts info3
  clear hl hd hp hH
  go_enter Try.func23, Try.ntmps23
  go_upto_region 1 with (fail)
  obtain ⟨w1, hw1⟩ : ∃ w1, (w.alloc (.cells [.slice (some ⟨b, off, none⟩) n c, av, ev, .int .i64 r].toArray 24)).alloc (.cells d.cells.toArray 26) = w1 := ⟨_, rfl⟩
  change Code.wp _ _ _ _ ((w.alloc (.cells [.slice (some ⟨b, off, none⟩) n c, av, ev, .int .i64 r].toArray 24)).alloc (.cells d.cells.toArray 26))
  rw [hw1] at B0 hbk hbd ⊢
  clear hw1
  have HB1 := Lib.hid B0
  have hs1 := B0.size
  clear B0 hv
  obtain ⟨bk, hbk0⟩ : ∃ bk, bk = w.heap.size := ⟨_, rfl⟩
  obtain ⟨bd, hbd0⟩ : ∃ bd, bd = w.heap.size + 1 := ⟨_, rfl⟩
  simp only [← hbd0] at hbd ⊢
  simp only [← hbk0] at hbk HB1 hs1 ⊢
  have Hbd0 := Lib.hid hbd0
  have Hbk0 := Lib.hid hbk0
  clear hbd0 hbk0
  have e0 : _ = some (Value.int .i64 d.x) := hbd.cell 0
  have e1 : _ = some (Value.int .i64 d.y) := hbd.cell 1
  have e2 : _ = some (Value.int .i64 d.z) := hbd.cell 2
  have k0 : _ = some (Value.slice (some ⟨b, off, none⟩) n c) := hbk.cell 0
  have k1 : _ = some av := hbk.cell 1
  have k2 : _ = some ev := hbk.cell 2
  have k3 : _ = some (Value.int .i64 r) := hbk.cell 3
  have Hbk := Lib.hid hbk
  have Hbd := Lib.hid hbd
  clear hbk hbd
  go_wp2_with fail
  refine (reach22_any _ av ev r n l x d _ Hl.out (Hv0.out.new (by rw [← Hbk0.out]; exact HB1.out)) Hd.out Hp.out).mono ?_
  rintro e w2 ⟨rfl, hB2⟩
  rw [← HH.out]
  obtain ⟨O, hO⟩ : ∃ O, O = loP d x l := ⟨_, rfl⟩
  rw [← hO]
  clear hO
  have HB2 := Lib.hid (HB1.out.trans (hB2.mono hs1))
  have Hbk2 := Lib.hid (Hbk.out.below hB2 Hbk.out.lt)
  have Hbd2 := Lib.hid (Hbd.out.below hB2 Hbd.out.lt)
  have Hv := Lib.hid (Hv0.out.new (by rw [← Hbk0.out]; exact HB2.out))
  have hs2 := HB2.out.size
  clear e0 e1 e2 hB2 Hbk Hbd HB1 hs1 k0 k1 k2 k3 Hv0
  have hB0 : Below w2.heap.size w2 w2 := Below.refl _ _
  go_upto_block 4 with (fail)
  go_loopw [11, 12, 13] (fun v i _ wr => ∃ k : Nat, k ≤ n ∧ i = .int .i64 (k : Int) ∧ wr.ownsRow w2.heap.size 3 1 v (frontL (atHi d H up) ((x :: l).take k)).length (idxCells (frontL (atHi d H up) ((x :: l).take k))) ∧ Below w2.heap.size w2 wr) (fun _ i _ _ => n - (intOf i).toNat)
  case atStart => exact ⟨0, Nat.zero_le _, rfl, by simpa [frontL, idxCells] using World.ownsRow_nil w2 w2.heap.size 3 1, hB0⟩
  case round =>
    clear hB0
    obtain ⟨k, hk, rfl, hown, hB⟩ := hrel
    have hbk := Hbk2.out.below hB Hbk2.out.lt
    have k0 : _ = some (Value.slice (some ⟨b, off, none⟩) n c) := hbk.cell 0
    by_cases hkm : k < n
    · obtain ⟨y, hy⟩ : ∃ y, (x :: l)[k]? = some y := ⟨_, List.getElem?_eq_getElem (by rw [Hl.out]; exact hkm)⟩
      have hkI : (k : Int) < (n : Int) := by omega
      have hmem : y ∈ x :: l := List.mem_of_getElem? hy
      obtain ⟨D0, D1⟩ := dot24 Hd0.out (Hp0.out y hmem)
      have hsn : frontL (atHi d H up) ((x :: l).take (k + 1)) = frontL (atHi d H up) ((x :: l).take k) ++ (if atHi d H up y then [k] else []) := by
        rw [List.take_add_one, hy]
        have := frontL_snoc (atHi d H up) ((x :: l).take k) y
        rw [List.length_take, Hl.out, Nat.min_eq_left hk] at this
        exact this
      have hle : (frontL (atHi d H up) ((x :: l).take k)).length ≤ 100 := Nat.le_trans (frontL_len _ _) (by rw [List.length_take]; omega)
      have Hsn := Lib.hid hsn
      have Hmem := Lib.hid hmem
      have Hy := Lib.hid hy
      have HB := Lib.hid hB
      have Hbk := Lib.hid hbk
      have Hbd := Lib.hid (Hbd2.out.below hB Hbd2.out.lt)
      have Hv3 := Lib.hid (Hv.out.new hB)
      have Hown := Lib.hid hown
      have hs := hB.size
      obtain ⟨D, hD⟩ : ∃ D, D = dotP d y := ⟨_, rfl⟩
      rw [← hD] at D0 D1
      have HD := Lib.hid hD
      clear hy hB hbk hmem hsn hown hD
      go_upto_region 6 with (fail)
      have E0 : ∀ u : After wr, u.W.cell? ⟨bk, 0, none⟩ = some (Value.slice (some ⟨b, off, none⟩) n c) := fun u => (Hbk.out.below u.h Hbk.out.lt).cell 0
      have F0 : ∀ u : After wr, u.W.cell? ⟨bd, 0, none⟩ = some (.int .i64 d.x) := fun u => (Hbd.out.below u.h Hbd.out.lt).cell 0
      have F1 : ∀ u : After wr, u.W.cell? ⟨bd, 1, none⟩ = some (.int .i64 d.y) := fun u => (Hbd.out.below u.h Hbd.out.lt).cell 1
      have F2 : ∀ u : After wr, u.W.cell? ⟨bd, 2, none⟩ = some (.int .i64 d.z) := fun u => (Hbd.out.below u.h Hbd.out.lt).cell 2
      have G0 : ∀ u : After wr, u.W.cell? ⟨b, off + k * 3, none⟩ = some (.int .i64 y.x) := fun u => ((Hv3.out.new u.h).pt (k := k) (by omega) Hy.out).1
      have G1 : ∀ u : After wr, u.W.cell? ⟨b, off + k * 3 + 1, none⟩ = some (.int .i64 y.y) := fun u => ((Hv3.out.new u.h).pt (k := k) (by omega) Hy.out).2.1
      have G2 : ∀ u : After wr, u.W.cell? ⟨b, off + k * 3 + 2, none⟩ = some (.int .i64 y.z) := fun u => ((Hv3.out.new u.h).pt (k := k) (by omega) Hy.out).2.2
      refine wp_region_after (by kernel_rfl) (by kernel_rfl) ?_
      repeat (go_big_quiet_step ((go_at_call 26; exact calls_after _ (dot26_any d y _ (near_mono Hd0.out (by decide)) (near_mono (Hp0.out y Hmem.out) (by decide))))))
      refine wpQuiet_nil ?_
      intro w5 hw5
      obtain ⟨u5, rfl⟩ := hw5
      clear E0 F0 F1 F2 G0 G1 G2 k0
      rw [← HD.out]
      have HB5 := Lib.hid (HB.out.trans (u5.h.mono hs))
      have hown := own_new Hown.out u5.h
      generalize u5.W = w6 at *
      have hs6 := HB5.out.size
      have eD := IntWalk.i64_in (H - D) (by omega)
      clear Hbk Hbd Hv3 HB Hown
      by_cases hle2 : H - D ≤ 8 * up
      · have hk1 : atHi d H up y = true := by unfold atHi; rw [← HD.out]; exact decide_eq_true hle2
        have hsn2 := Hsn.out
        rw [hk1] at hsn2
        have Hsn2 := Lib.hid hsn2
        obtain ⟨T, hT⟩ : ∃ T, T = (frontL (atHi d H up) ((x :: l).take k)).length := ⟨_, rfl⟩
        rw [← hT] at hown hle
        have HT := Lib.hid hT
        clear hk1 hsn2 hT
        go_wp2_with (at_builtin; refine wpList_append_own _ rfl _ _ 49 rfl w2.heap.size 3 i0 (.int .i64 0) 1 8 Try.underlying49 hi hz0 hz1 hz2 rfl (by decide) _ _ _ rfl (hown.alloc _) ⟨w6.heap.size, 0, none⟩ 1 1 [.int .i64 k] rfl rfl (cell_one_new _ _ _) (by simp [Value.oneCell']) (by unfold maxLen; omega) (by omega) (by simp; omega) ?_; intro v' w7 hown' hgrow _)
        have hb1 : Below w2.heap.size w2 w7 := (HB5.out.alloc hs6 _).grown hgrow (by simp; omega) (fun r hr => ownBlock_ge hown hr)
        have hown2 : w7.ownsRow w2.heap.size 3 1 v' (frontL (atHi d H up) ((x :: l).take (k + 1))).length (idxCells (frontL (atHi d H up) ((x :: l).take (k + 1)))) := by
          rw [Hsn2.out]
          simp only [if_true, List.length_append, List.length_singleton, ← HT.out]
          simpa [idxCells] using hown'
        clear hown' hgrow
        go_roundw
        case rel => exact ⟨k + 1, by omega, by go_num, hown2, hb1⟩
        case measure => simp [intOf]; omega
      · have hk1 : atHi d H up y = false := by unfold atHi; rw [← HD.out]; exact decide_eq_false hle2
        have hsn2 := Hsn.out
        rw [hk1] at hsn2
        have hown2 : w6.ownsRow w2.heap.size 3 1 u11 (frontL (atHi d H up) ((x :: l).take (k + 1))).length (idxCells (frontL (atHi d H up) ((x :: l).take (k + 1)))) := by
          rw [hsn2]
          simpa using hown
        clear hk1 hsn2 hown
        go_wp2
        go_roundw
        case rel => exact ⟨k + 1, by omega, by go_num, hown2, HB5.out⟩
        case measure => simp [intOf]; omega
    · obtain rfl : k = n := by omega
      have hall : (x :: l).take k = x :: l := by rw [← Hl.out, List.take_length]
      rw [hall] at hown
      have Hf := Lib.hid (own_base (base' := w.heap.size) hown hs2)
      have HBz := Lib.hid (HB2.out.trans (hB.mono (by rw [Hbk0.out]; exact hs2)))
      clear hall hB hbk hown
      go_wp2
      go_ret
      exact ⟨⟨_, rfl, Hf.out⟩, by rw [← Hbk0.out]; exact HBz.out⟩
set_option maxRecDepth 100000 in
theorem front23_lo (pv av ev : Value) (r : Int) (n : Nat) (l : List Pt) (x : Pt) (d : Pt) (up : Int) (w : World) (hl : (x :: l).length = n) (hn : n ≤ 100) (hv : Rd w pv n 3 (ptCells (x :: l))) (hd : Near 16777216 d) (hp : ∀ p ∈ x :: l, Near 16777216 p) (hu : 0 ≤ up ∧ up ≤ 67108864) :
    Calls Try.prog 23 #[corV pv av ev r, ptV d, .int .i64 up, .bool false] w fun e w' => (∃ v, e = .returned v ∧ w'.ownsRow w.heap.size 3 1 v (frontL (atLo d (loP d x l) up) (x :: l)).length (idxCells (frontL (atLo d (loP d x l) up) (x :: l)))) ∧ Below w.heap.size w w' := by
  obtain ⟨a, c, rfl, c1, c2⟩ := hv.shape
  obtain ⟨b, off, rfl⟩ := hv.addr (by simp at hl; omega)
  have B0 : Below w.heap.size w ((w.alloc (.cells [.slice (some ⟨b, off, none⟩) n c, av, ev, .int .i64 r].toArray 24)).alloc (.cells d.cells.toArray 26)) := ((Below.refl _ w).alloc (Nat.le_refl _) _).alloc (by simp) _
  have hbk := (Blk.newAt (w := w) (b := w.heap.size) rfl 24 [.slice (some ⟨b, off, none⟩) n c, av, ev, .int .i64 r]).alloc (.cells d.cells.toArray 26)
  have hbd := Blk.newAt (w := w.alloc (.cells [.slice (some ⟨b, off, none⟩) n c, av, ev, .int .i64 r].toArray 24)) (b := w.heap.size + 1) (by simp) 26 d.cells
  have Hl := Lib.hid hl
  have Hd0 := Lib.hid hd
  have Hp0 := Lib.hid hp
  have Hd := Lib.hid (near_mono (M := 67108864) hd (by decide))
  have Hp := Lib.hid (fun p hm => near_mono (M := 67108864) (hp p hm) (by decide))
  have hn1 : 1 ≤ n := by simp at hl; omega
  have hnI : (0 : Int) < (n : Int) := by omega
  have Hv0 := Lib.hid hv
  obtain ⟨H, hH⟩ : ∃ H, H = loP d x l := ⟨_, rfl⟩
  have hH24 := lo24 hd hp
  rw [← hH] at hH24 ⊢
  obtain ⟨u0, u1⟩ := hu
  obtain ⟨H0, H1⟩ := hH24
  have e8 := IntWalk.i64_in (8 * up) (by omega)
  have HH := Lib.hid hH
  obtain ⟨i0, hi, hz0, hz1, hz2⟩ := info_parts info3
  clear hl hd hp hH
  go_enter Try.func23, Try.ntmps23
  go_upto_region 1 with (fail)
  obtain ⟨w1, hw1⟩ : ∃ w1, (w.alloc (.cells [.slice (some ⟨b, off, none⟩) n c, av, ev, .int .i64 r].toArray 24)).alloc (.cells d.cells.toArray 26) = w1 := ⟨_, rfl⟩
  change Code.wp _ _ _ _ ((w.alloc (.cells [.slice (some ⟨b, off, none⟩) n c, av, ev, .int .i64 r].toArray 24)).alloc (.cells d.cells.toArray 26))
  rw [hw1] at B0 hbk hbd ⊢
  clear hw1
  have HB1 := Lib.hid B0
  have hs1 := B0.size
  clear B0 hv
  obtain ⟨bk, hbk0⟩ : ∃ bk, bk = w.heap.size := ⟨_, rfl⟩
  obtain ⟨bd, hbd0⟩ : ∃ bd, bd = w.heap.size + 1 := ⟨_, rfl⟩
  simp only [← hbd0] at hbd ⊢
  simp only [← hbk0] at hbk HB1 hs1 ⊢
  have Hbd0 := Lib.hid hbd0
  have Hbk0 := Lib.hid hbk0
  clear hbd0 hbk0
  have e0 : _ = some (Value.int .i64 d.x) := hbd.cell 0
  have e1 : _ = some (Value.int .i64 d.y) := hbd.cell 1
  have e2 : _ = some (Value.int .i64 d.z) := hbd.cell 2
  have k0 : _ = some (Value.slice (some ⟨b, off, none⟩) n c) := hbk.cell 0
  have k1 : _ = some av := hbk.cell 1
  have k2 : _ = some ev := hbk.cell 2
  have k3 : _ = some (Value.int .i64 r) := hbk.cell 3
  have Hbk := Lib.hid hbk
  have Hbd := Lib.hid hbd
  clear hbk hbd
  go_wp2_with fail
  refine (reach22_any _ av ev r n l x d _ Hl.out (Hv0.out.new (by rw [← Hbk0.out]; exact HB1.out)) Hd.out Hp.out).mono ?_
  rintro e w2 ⟨rfl, hB2⟩
  rw [← HH.out]
  obtain ⟨O, hO⟩ : ∃ O, O = hiP d x l := ⟨_, rfl⟩
  rw [← hO]
  clear hO
  have HB2 := Lib.hid (HB1.out.trans (hB2.mono hs1))
  have Hbk2 := Lib.hid (Hbk.out.below hB2 Hbk.out.lt)
  have Hbd2 := Lib.hid (Hbd.out.below hB2 Hbd.out.lt)
  have Hv := Lib.hid (Hv0.out.new (by rw [← Hbk0.out]; exact HB2.out))
  have hs2 := HB2.out.size
  clear e0 e1 e2 hB2 Hbk Hbd HB1 hs1 k0 k1 k2 k3 Hv0
  have hB0 : Below w2.heap.size w2 w2 := Below.refl _ _
  go_upto_block 4 with (fail)
  go_loopw [11, 12, 13] (fun v i _ wr => ∃ k : Nat, k ≤ n ∧ i = .int .i64 (k : Int) ∧ wr.ownsRow w2.heap.size 3 1 v (frontL (atLo d H up) ((x :: l).take k)).length (idxCells (frontL (atLo d H up) ((x :: l).take k))) ∧ Below w2.heap.size w2 wr) (fun _ i _ _ => n - (intOf i).toNat)
  case atStart => exact ⟨0, Nat.zero_le _, rfl, by simpa [frontL, idxCells] using World.ownsRow_nil w2 w2.heap.size 3 1, hB0⟩
  case round =>
    clear hB0
    obtain ⟨k, hk, rfl, hown, hB⟩ := hrel
    have hbk := Hbk2.out.below hB Hbk2.out.lt
    have k0 : _ = some (Value.slice (some ⟨b, off, none⟩) n c) := hbk.cell 0
    by_cases hkm : k < n
    · obtain ⟨y, hy⟩ : ∃ y, (x :: l)[k]? = some y := ⟨_, List.getElem?_eq_getElem (by rw [Hl.out]; exact hkm)⟩
      have hkI : (k : Int) < (n : Int) := by omega
      have hmem : y ∈ x :: l := List.mem_of_getElem? hy
      obtain ⟨D0, D1⟩ := dot24 Hd0.out (Hp0.out y hmem)
      have hsn : frontL (atLo d H up) ((x :: l).take (k + 1)) = frontL (atLo d H up) ((x :: l).take k) ++ (if atLo d H up y then [k] else []) := by
        rw [List.take_add_one, hy]
        have := frontL_snoc (atLo d H up) ((x :: l).take k) y
        rw [List.length_take, Hl.out, Nat.min_eq_left hk] at this
        exact this
      have hle : (frontL (atLo d H up) ((x :: l).take k)).length ≤ 100 := Nat.le_trans (frontL_len _ _) (by rw [List.length_take]; omega)
      have Hsn := Lib.hid hsn
      have Hmem := Lib.hid hmem
      have Hy := Lib.hid hy
      have HB := Lib.hid hB
      have Hbk := Lib.hid hbk
      have Hbd := Lib.hid (Hbd2.out.below hB Hbd2.out.lt)
      have Hv3 := Lib.hid (Hv.out.new hB)
      have Hown := Lib.hid hown
      have hs := hB.size
      obtain ⟨D, hD⟩ : ∃ D, D = dotP d y := ⟨_, rfl⟩
      rw [← hD] at D0 D1
      have HD := Lib.hid hD
      clear hy hB hbk hmem hsn hown hD
      go_upto_region 6 with (fail)
      have E0 : ∀ u : After wr, u.W.cell? ⟨bk, 0, none⟩ = some (Value.slice (some ⟨b, off, none⟩) n c) := fun u => (Hbk.out.below u.h Hbk.out.lt).cell 0
      have F0 : ∀ u : After wr, u.W.cell? ⟨bd, 0, none⟩ = some (.int .i64 d.x) := fun u => (Hbd.out.below u.h Hbd.out.lt).cell 0
      have F1 : ∀ u : After wr, u.W.cell? ⟨bd, 1, none⟩ = some (.int .i64 d.y) := fun u => (Hbd.out.below u.h Hbd.out.lt).cell 1
      have F2 : ∀ u : After wr, u.W.cell? ⟨bd, 2, none⟩ = some (.int .i64 d.z) := fun u => (Hbd.out.below u.h Hbd.out.lt).cell 2
      have G0 : ∀ u : After wr, u.W.cell? ⟨b, off + k * 3, none⟩ = some (.int .i64 y.x) := fun u => ((Hv3.out.new u.h).pt (k := k) (by omega) Hy.out).1
      have G1 : ∀ u : After wr, u.W.cell? ⟨b, off + k * 3 + 1, none⟩ = some (.int .i64 y.y) := fun u => ((Hv3.out.new u.h).pt (k := k) (by omega) Hy.out).2.1
      have G2 : ∀ u : After wr, u.W.cell? ⟨b, off + k * 3 + 2, none⟩ = some (.int .i64 y.z) := fun u => ((Hv3.out.new u.h).pt (k := k) (by omega) Hy.out).2.2
      refine wp_region_after (by kernel_rfl) (by kernel_rfl) ?_
      repeat (go_big_quiet_step ((go_at_call 26; exact calls_after _ (dot26_any d y _ (near_mono Hd0.out (by decide)) (near_mono (Hp0.out y Hmem.out) (by decide))))))
      refine wpQuiet_nil ?_
      intro w5 hw5
      obtain ⟨u5, rfl⟩ := hw5
      clear E0 F0 F1 F2 G0 G1 G2 k0
      rw [← HD.out]
      have HB5 := Lib.hid (HB.out.trans (u5.h.mono hs))
      have hown := own_new Hown.out u5.h
      generalize u5.W = w6 at *
      have hs6 := HB5.out.size
      have eD := IntWalk.i64_in (D - H) (by omega)
      clear Hbk Hbd Hv3 HB Hown
      by_cases hle2 : D - H ≤ 8 * up
      · have hk1 : atLo d H up y = true := by unfold atLo; rw [← HD.out]; exact decide_eq_true hle2
        have hsn2 := Hsn.out
        rw [hk1] at hsn2
        have Hsn2 := Lib.hid hsn2
        obtain ⟨T, hT⟩ : ∃ T, T = (frontL (atLo d H up) ((x :: l).take k)).length := ⟨_, rfl⟩
        rw [← hT] at hown hle
        have HT := Lib.hid hT
        clear hk1 hsn2 hT
        go_wp2_with (at_builtin; refine wpList_append_own _ rfl _ _ 49 rfl w2.heap.size 3 i0 (.int .i64 0) 1 8 Try.underlying49 hi hz0 hz1 hz2 rfl (by decide) _ _ _ rfl (hown.alloc _) ⟨w6.heap.size, 0, none⟩ 1 1 [.int .i64 k] rfl rfl (cell_one_new _ _ _) (by simp [Value.oneCell']) (by unfold maxLen; omega) (by omega) (by simp; omega) ?_; intro v' w7 hown' hgrow _)
        have hb1 : Below w2.heap.size w2 w7 := (HB5.out.alloc hs6 _).grown hgrow (by simp; omega) (fun r hr => ownBlock_ge hown hr)
        have hown2 : w7.ownsRow w2.heap.size 3 1 v' (frontL (atLo d H up) ((x :: l).take (k + 1))).length (idxCells (frontL (atLo d H up) ((x :: l).take (k + 1)))) := by
          rw [Hsn2.out]
          simp only [if_true, List.length_append, List.length_singleton, ← HT.out]
          simpa [idxCells] using hown'
        clear hown' hgrow
        go_roundw
        case rel => exact ⟨k + 1, by omega, by go_num, hown2, hb1⟩
        case measure => simp [intOf]; omega
      · have hk1 : atLo d H up y = false := by unfold atLo; rw [← HD.out]; exact decide_eq_false hle2
        have hsn2 := Hsn.out
        rw [hk1] at hsn2
        have hown2 : w6.ownsRow w2.heap.size 3 1 u11 (frontL (atLo d H up) ((x :: l).take (k + 1))).length (idxCells (frontL (atLo d H up) ((x :: l).take (k + 1)))) := by
          rw [hsn2]
          simpa using hown
        clear hk1 hsn2 hown
        go_wp2
        go_roundw
        case rel => exact ⟨k + 1, by omega, by go_num, hown2, HB5.out⟩
        case measure => simp [intOf]; omega
    · obtain rfl : k = n := by omega
      have hall : (x :: l).take k = x :: l := by rw [← Hl.out, List.take_length]
      rw [hall] at hown
      have Hf := Lib.hid (own_base (base' := w.heap.size) hown hs2)
      have HBz := Lib.hid (HB2.out.trans (hB.mono (by rw [Hbk0.out]; exact hs2)))
      clear hall hB hbk hown
      go_wp2
      go_ret
      exact ⟨⟨_, rfl, Hf.out⟩, by rw [← Hbk0.out]; exact HBz.out⟩
end Go.Proofs.Ytpbpdgknjbjlcaa
