/- Contacts: how wide some numbers lie. -/
import Derived.Test.YtpbpdgknjbjlcaaCg
namespace Go.Proofs.Ytpbpdgknjbjlcaa
open Go.RowKit
def minL (x : Int) (l : List Int) : Int := l.foldl min x
def maxL (x : Int) (l : List Int) : Int := l.foldl max x
theorem minL_snoc (x : Int) (l : List Int) (y : Int) : minL x (l ++ [y]) = min (minL x l) y := by simp [minL]
theorem maxL_snoc (x : Int) (l : List Int) (y : Int) : maxL x (l ++ [y]) = max (maxL x l) y := by simp [maxL]
theorem minL_first (x : Int) (l : List Int) : minL x (x :: l) = minL x l := by simp [minL]
theorem maxL_first (x : Int) (l : List Int) : maxL x (x :: l) = maxL x l := by simp [maxL]
theorem minL_range {K x : Int} {l : List Int} (hx : -K ≤ x ∧ x ≤ K) (h : ∀ y ∈ l, -K ≤ y ∧ y ≤ K) : -K ≤ minL x l ∧ minL x l ≤ K := by
  induction l generalizing x with
  | nil => exact hx
  | cons a l ih =>
    refine ih (x := min x a) ?_ (fun y hy => h y (List.mem_cons_of_mem _ hy))
    have := h a (List.mem_cons_self ..)
    omega
theorem maxL_range {K x : Int} {l : List Int} (hx : -K ≤ x ∧ x ≤ K) (h : ∀ y ∈ l, -K ≤ y ∧ y ≤ K) : -K ≤ maxL x l ∧ maxL x l ≤ K := by
  induction l generalizing x with
  | nil => exact hx
  | cons a l ih =>
    refine ih (x := max x a) ?_ (fun y hy => h y (List.mem_cons_of_mem _ hy))
    have := h a (List.mem_cons_self ..)
    omega
set_option maxRecDepth 100000 in
theorem width45_any (v : Value) (n : Nat) (x : Int) (l : List Int) (w : World) (hl : (x :: l).length = n) (hv : Rd w v n 1 (ints (x :: l))) (hb : ∀ y ∈ x :: l, -16777216 ≤ y ∧ y ≤ 16777216) :
    Calls Try.prog 45 #[v] w fun e w' => e = .returned (.int .i64 (maxL x l - minL x l)) ∧ w' = w := by
  obtain ⟨a, c, rfl, c1, c2⟩ := hv.shape
  obtain ⟨b, off, rfl⟩ := hv.addr (by simp at hl; omega)
  have hn1 : 1 ≤ n := by simp at hl; omega
  have hnI : (0 : Int) < (n : Int) := by omega
  have Hl := Lib.hid hl
  have Hv := Lib.hid hv
  have p0 : w.cell? ⟨b, off, none⟩ = some (.int .i64 x) := by simpa using hv.int hl (i := 0) (by omega)
  obtain ⟨r0, r1⟩ := maxL_range (hb x (List.mem_cons_self ..)) (fun y hy => hb y (List.mem_cons_of_mem _ hy))
  obtain ⟨r2, r3⟩ := minL_range (hb x (List.mem_cons_self ..)) (fun y hy => hb y (List.mem_cons_of_mem _ hy))
  obtain ⟨A, hA⟩ : ∃ A, A = maxL x l := ⟨_, rfl⟩
  obtain ⟨I, hI⟩ : ∃ I, I = minL x l := ⟨_, rfl⟩
  rw [← hA] at r0 r1
  rw [← hI] at r2 r3
  rw [← hA, ← hI]
  have HA := Lib.hid hA
  have HI := Lib.hid hI
  have eD := IntWalk.i64_in (A - I) (by omega)
  clear hl hv hb hA hI
  go_enter Try.func45, Try.ntmps45
  go_upto_block 4 with (fail)
  clear p0
  go_loopw [3, 4, 5] (fun a c i wr => ∃ k : Nat, k ≤ n ∧ i = .int .i64 (k : Int) ∧ a = .int .i64 (minL x ((x :: l).take k)) ∧ c = .int .i64 (maxL x ((x :: l).take k)) ∧ wr = w) (fun _ _ i _ => n - (intOf i).toNat)
  case atStart => exact ⟨0, Nat.zero_le _, rfl, rfl, rfl, rfl⟩
  case round =>
    obtain ⟨k, hk, rfl, ha, hb2, rfl⟩ := hrel
    by_cases hkm : k < n
    · obtain ⟨y, hy⟩ : ∃ y, (x :: l)[k]? = some y := ⟨_, List.getElem?_eq_getElem (by rw [Hl.out]; exact hkm)⟩
      have q0 := Hv.out.int Hl.out hkm
      rw [hy] at q0
      simp only [Option.getD_some] at q0
      have hkI : (k : Int) < (n : Int) := by omega
      have hlo : minL x ((x :: l).take (k + 1)) = min (minL x ((x :: l).take k)) y := by rw [List.take_add_one, hy]; exact minL_snoc _ _ _
      have hhi : maxL x ((x :: l).take (k + 1)) = max (maxL x ((x :: l).take k)) y := by rw [List.take_add_one, hy]; exact maxL_snoc _ _ _
      have Hlo := Lib.hid hlo
      have Hhi := Lib.hid hhi
      subst ha
      subst hb2
      generalize minL x ((x :: l).take k) = lo at *
      generalize maxL x ((x :: l).take k) = hi at *
      clear hy hlo hhi
      go_wp2
      go_roundw
      case rel => exact ⟨k + 1, by omega, by go_num, by rw [Hlo.out]; congr 1; split <;> omega, by rw [Hhi.out]; congr 1; split <;> omega, trivial⟩
      case measure => simp [intOf]; omega
    · obtain rfl : k = n := by omega
      have hall : (x :: l).take k = x :: l := by rw [← Hl.out, List.take_length]
      rw [hall, minL_first, ← HI.out] at ha
      rw [hall, maxL_first, ← HA.out] at hb2
      subst ha
      subst hb2
      clear hall
      go_wp2
      go_ret
      exact ⟨rfl, rfl⟩
/-- How spread points are. -/
def spreadP (q : Pt) (qs : List Pt) : Int := (maxL q.x (qs.map Pt.x) - minL q.x (qs.map Pt.x)) + (maxL q.y (qs.map Pt.y) - minL q.y (qs.map Pt.y)) + (maxL q.z (qs.map Pt.z) - minL q.z (qs.map Pt.z))
def ptAt (l : List Pt) (k : Nat) : Pt := l[k]?.getD ⟨0, 0, 0⟩
theorem ptAt_get {l : List Pt} {k : Nat} (h : k < l.length) : l[k]? = some (ptAt l k) := by
  unfold ptAt
  rw [List.getElem?_eq_getElem h]
  rfl
end Go.Proofs.Ytpbpdgknjbjlcaa
/- Contacts: the reference's spread. -/
namespace Go.Proofs.Ytpbpdgknjbjlcaa
open Go.RowKit
/-- Two slices of the call's own that share no block. -/
def Off (a b : Value) : Prop := ∀ g, a.ownBlock = some g → b.ownBlock ≠ some g
theorem Off.symm {a b : Value} (h : Off a b) : Off b a := fun g hb ha => h g ha hb
theorem off_nil (b : Value) : Off (.slice none 0 0) b := by intro g h; simp [Value.ownBlock] at h
theorem off_new {a b : Value} (h : Off a b) {gg H m c : Nat} (hg : a.ownBlock = some gg ∨ gg = H) (hb : ∀ r, b.ownBlock = some r → r < H) : Off (.slice (some ⟨gg, 0, none⟩) m c) b := by
  intro g hgg hbb
  have : gg = g := by simpa [Value.ownBlock] using hgg
  subst this
  rcases hg with h1 | rfl
  · exact h _ h1 hbb
  · exact absurd (hb _ hbb) (by omega)
theorem ints_snoc (l : List Int) (x : Int) : ints (l ++ [x]) = ints l ++ [.int .i64 x] := by simp [ints]
theorem ptAt_near {K : Int} {l : List Pt} (h : ∀ p ∈ l, Near K p) (hK : 0 ≤ K) (k : Nat) : Near K (ptAt l k) := by
  unfold ptAt
  cases hk : l[k]? with
  | none => exact ⟨⟨by show -K ≤ 0; omega, hK⟩, ⟨by show -K ≤ 0; omega, hK⟩, ⟨by show -K ≤ 0; omega, hK⟩⟩
  | some p => exact h p (List.mem_of_getElem? hk)
set_option maxRecDepth 100000 in
set_option maxHeartbeats 1000000 in
theorem spread24_walk (pv av ev : Value) (r : Int) (np : Nat) (PL : List Pt) (iv : Value) (nL : Nat) (L : List Nat) (q : Pt) (qs : List Pt) (w : World) (hpl : PL.length = np) (hv : Rd w pv np 3 (ptCells PL)) (hp : ∀ p ∈ PL, Near 16777216 p)
    (hL : L.length = nL) (hn : nL ≤ 100) (hi : Rd w iv nL 1 (idxCells L)) (hlt : ∀ k ∈ L, k < np) (hq : L.map (ptAt PL) = q :: qs) :
    Calls Try.prog 24 #[corV pv av ev r, iv] w fun e w' => e = .returned (.int .i64 (spreadP q qs)) ∧ Below w.heap.size w w' := by
  obtain ⟨a, c, rfl, c1, c2⟩ := hv.shape
  obtain ⟨ia, ic, rfl, i1, i2⟩ := hi.shape
  have hnL1 : 1 ≤ nL := by rw [← hL]; cases L with | nil => simp at hq | cons a t => simp
  have hnp1 : 1 ≤ np := by
    cases L with
    | nil => simp at hq
    | cons k t => have := hlt k (List.mem_cons_self ..); omega
  obtain ⟨b, off, rfl⟩ := hv.addr (by omega)
  obtain ⟨bi, offi, rfl⟩ := hi.addr (by omega)
  have B0 : Below w.heap.size w (w.alloc (.cells [.slice (some ⟨b, off, none⟩) np c, av, ev, .int .i64 r].toArray 24)) := (Below.refl _ w).alloc (Nat.le_refl _) _
  have hbk := Blk.newAt (w := w) (b := w.heap.size) rfl 24 [.slice (some ⟨b, off, none⟩) np c, av, ev, .int .i64 r]
  have hnI : (0 : Int) < (nL : Int) := by omega
  obtain ⟨i0, hi0, hz0, hz1, hz2⟩ := info_parts info3
  have Hpl := Lib.hid hpl
  have Hp := Lib.hid hp
  have HL := Lib.hid hL
  have Hlt := Lib.hid hlt
  have Hq := Lib.hid hq
  have Hv0 := Lib.hid hv
  have Hi0 := Lib.hid hi
  clear hpl hp hL hlt hq hv hi
  go_enter Try.func24, Try.ntmps24
  go_upto_block 5 with (fail)
  obtain ⟨w1, hw1⟩ : ∃ w1, w.alloc (.cells [.slice (some ⟨b, off, none⟩) np c, av, ev, .int .i64 r].toArray 24) = w1 := ⟨_, rfl⟩
  change Code.wp _ _ _ _ (w.alloc (.cells [.slice (some ⟨b, off, none⟩) np c, av, ev, .int .i64 r].toArray 24))
  rw [hw1] at B0 hbk ⊢
  clear hw1
  have HB1 := Lib.hid B0
  have hs1 := B0.size
  clear B0
  generalize hbk0 : w.heap.size = bk at *
  have Hbk0 := Lib.hid hbk0
  clear hbk0
  have HF : Hid (∀ W, Below w1.heap.size w1 W → W.cell? ⟨bk, 0, none⟩ = some (.slice (some ⟨b, off, none⟩) np c) ∧ (∀ j k, j < nL → L[j]? = some k → W.cell? ⟨bi, offi + j, none⟩ = some (.int .i64 (k : Int))) ∧ (∀ k p, k < np → PL[k]? = some p → W.cell? ⟨b, off + k * 3, none⟩ = some (.int .i64 p.x) ∧ W.cell? ⟨b, off + k * 3 + 1, none⟩ = some (.int .i64 p.y) ∧ W.cell? ⟨b, off + k * 3 + 2, none⟩ = some (.int .i64 p.z))) := Lib.hid fun W hW => by
    refine ⟨(hbk.below hW hbk.lt).cell 0, fun j k hj hk => ?_, fun k p hk hp => ?_⟩
    · have hB := HB1.out
      rw [← Hbk0.out] at hB
      rw [((Hi0.out.new hB).new hW).at (by rw [Nat.mul_one]; exact hj), idx_get hk]
    · have hB := HB1.out
      rw [← Hbk0.out] at hB
      exact ((Hv0.out.new hB).new hW).pt hk hp
  have hB0 : Below w1.heap.size w1 w1 := Below.refl _ _
  clear hbk Hv0 Hi0
  go_loopw [5, 6, 7, 8] (fun vx vy vz i wr => ∃ k : Nat, k ≤ nL ∧ i = .int .i64 (k : Int) ∧ wr.ownsRow w1.heap.size 3 1 vx k (ints (((L.take k).map (ptAt PL)).map Pt.x)) ∧ wr.ownsRow w1.heap.size 3 1 vy k (ints (((L.take k).map (ptAt PL)).map Pt.y)) ∧ wr.ownsRow w1.heap.size 3 1 vz k (ints (((L.take k).map (ptAt PL)).map Pt.z)) ∧ Off vx vy ∧ Off vx vz ∧ Off vy vz ∧ Below w1.heap.size w1 wr) (fun _ _ _ i _ => nL - (intOf i).toNat)
  case atStart => exact ⟨0, Nat.zero_le _, rfl, World.ownsRow_nil _ _ _ _, World.ownsRow_nil _ _ _ _, World.ownsRow_nil _ _ _ _, off_nil _, off_nil _, off_nil _, hB0⟩
  case round =>
    clear hB0
    obtain ⟨k, hk, rfl, hox, hoy, hoz, o1, o2, o3, hB⟩ := hrel
    by_cases hkm : k < nL
    · obtain ⟨j, hj⟩ : ∃ j, L[k]? = some j := ⟨_, List.getElem?_eq_getElem (by rw [HL.out]; exact hkm)⟩
      have hjn : j < np := Hlt.out j (List.mem_of_getElem? hj)
      have hpt := ptAt_get (l := PL) (k := j) (by rw [Hpl.out]; exact hjn)
      obtain ⟨p, hpp⟩ : ∃ p, p = ptAt PL j := ⟨_, rfl⟩
      rw [← hpp] at hpt
      have hnx : ∀ f : Pt → Int, ints (((L.take (k + 1)).map (ptAt PL)).map f) = ints (((L.take k).map (ptAt PL)).map f) ++ [.int .i64 (f p)] := by
        intro f
        rw [List.take_add_one, hj, hpp]
        simp [ints]
      have Hnx := Lib.hid hnx
      have Hj := Lib.hid hj
      have Hpt := Lib.hid hpt
      have hkI : (k : Int) < (nL : Int) := by omega
      have hjI : (j : Int) < (np : Int) := by omega
      have hj0 : (0 : Int) ≤ (j : Int) := by omega
      have hs := hB.size
      clear hj hpt hpp hnx
      obtain ⟨k0, kI, kP⟩ := HF.out wr hB
      have k1 := kI k j hkm Hj.out
      have k2 := (kP j p hjn Hpt.out).1
      have T71 : k ≤ 100 := by omega
      clear kI kP
      go_upto_region 7 with (fail)
      go_region_held3 (fun W => W.cell? ⟨bk, 0, none⟩ = some (.slice (some ⟨b, off, none⟩) np c) ∧ W.cell? ⟨bi, offi + k, none⟩ = some (.int .i64 (j : Int)) ∧ W.cell? ⟨b, off + j * 3, none⟩ = some (.int .i64 p.x))
        (first | go_keep | exact ⟨m0, m1, m2⟩)
        ((refine step_append_lies _ (by rfl) _ _ _ (by rfl) w1.heap.size 3 i0 _ 1 8 Try.underlying49 hi0 hz0 hz1 hz2 rfl (by omega) _ k (ints (((L.take k).map (ptAt PL)).map Pt.x)) (by rfl) (hox.drew.alloc _) ⟨wr.heap.size, 0, none⟩ 1 1 [.int .i64 p.x] (by rfl) (by rfl) (World.news_of_block (cs := #[.int .i64 p.x]) (t := 3) (fr := (0, 0)) (heap_alloc_new wr.drew _)) (by simp [Value.oneCell']) (by omega) (by unfold maxLen; omega) (by omega) (by simp; omega) (wr.heap.size + 1) (by simp) ?_
          intro gg71 cap71 w71 o71 g71 hat71 hlt71
          have B71 : Below w1.heap.size w1 w71 := (hB.drew.alloc hs (.cells #[.int .i64 p.x] 3)).grown g71 (by simp; omega) (fun r hr => ownBlock_ge hox hr)
          obtain ⟨m0, mI, mP⟩ := HF.out w71 B71
          have m1 := mI k j hkm Hj.out
          have m2 := (mP j p hjn Hpt.out).1
          clear mI mP))
      have hoy7 := own_far (hoy.drew.alloc (.cells #[.int .i64 p.x] 3)) g71 (fun g hg => o1.symm g hg)
      have hoz7 := own_far (hoz.drew.alloc (.cells #[.int .i64 p.x] 3)) g71 (fun g hg => o2.symm g hg)
      have p1 : Off (.slice (some ⟨gg71, 0, none⟩) (k + 1) cap71) u6 := off_new o1 hat71 (fun r hr => Nat.lt_succ_of_lt (own_lt hoy hr))
      have p2 : Off (.slice (some ⟨gg71, 0, none⟩) (k + 1) cap71) u7 := off_new o2 hat71 (fun r hr => Nat.lt_succ_of_lt (own_lt hoz hr))
      have hox7 : w71.ownsRow w1.heap.size 3 1 (.slice (some ⟨gg71, 0, none⟩) (k + 1) cap71) (k + 1) (ints (((L.take (k + 1)).map (ptAt PL)).map Pt.x)) := by rw [Hnx.out]; exact o71
      replace hs := B71.size
      clear hox hoy hoz o1 o2 o71 g71 hat71 hlt71 hB k0 k1 k2 m0 m1 m2
      obtain ⟨k0, kI, kP⟩ := HF.out w71 B71
      have k1 := kI k j hkm Hj.out
      have k2 := (kP j p hjn Hpt.out).2.1
      have T72 : k ≤ 100 := by omega
      clear kI kP
      go_upto_region 8 with (fail)
      go_region_held3 (fun W => W.cell? ⟨bk, 0, none⟩ = some (.slice (some ⟨b, off, none⟩) np c) ∧ W.cell? ⟨bi, offi + k, none⟩ = some (.int .i64 (j : Int)) ∧ W.cell? ⟨b, off + j * 3 + 1, none⟩ = some (.int .i64 p.y))
        (first | go_keep | exact ⟨m0, m1, m2⟩)
        ((refine step_append_lies _ (by rfl) _ _ _ (by rfl) w1.heap.size 3 i0 _ 1 8 Try.underlying49 hi0 hz0 hz1 hz2 rfl (by omega) _ k (ints (((L.take k).map (ptAt PL)).map Pt.y)) (by rfl) (hoy7.drew.alloc _) ⟨w71.heap.size, 0, none⟩ 1 1 [.int .i64 p.y] (by rfl) (by rfl) (World.news_of_block (cs := #[.int .i64 p.y]) (t := 3) (fr := (0, 0)) (heap_alloc_new w71.drew _)) (by simp [Value.oneCell']) (by omega) (by unfold maxLen; omega) (by omega) (by simp; omega) (w71.heap.size + 1) (by simp) ?_
          intro gg72 cap72 w72 o72 g72 hat72 hlt72
          have B72 : Below w1.heap.size w1 w72 := (B71.drew.alloc hs (.cells #[.int .i64 p.y] 3)).grown g72 (by simp; omega) (fun r hr => ownBlock_ge hoy7 hr)
          obtain ⟨m0, mI, mP⟩ := HF.out w72 B72
          have m1 := mI k j hkm Hj.out
          have m2 := (mP j p hjn Hpt.out).2.1
          clear mI mP))
      have hox8 := own_far (hox7.drew.alloc (.cells #[.int .i64 p.y] 3)) g72 (fun g hg => p1 g hg)
      have hoz8 := own_far (hoz7.drew.alloc (.cells #[.int .i64 p.y] 3)) g72 (fun g hg => o3.symm g hg)
      have p3 : Off (.slice (some ⟨gg72, 0, none⟩) (k + 1) cap72) (.slice (some ⟨gg71, 0, none⟩) (k + 1) cap71) := off_new p1.symm hat72 (fun r hr => Nat.lt_succ_of_lt (own_lt hox7 hr))
      have p4 : Off (.slice (some ⟨gg72, 0, none⟩) (k + 1) cap72) u7 := off_new o3 hat72 (fun r hr => Nat.lt_succ_of_lt (own_lt hoz7 hr))
      have hoy8 : w72.ownsRow w1.heap.size 3 1 (.slice (some ⟨gg72, 0, none⟩) (k + 1) cap72) (k + 1) (ints (((L.take (k + 1)).map (ptAt PL)).map Pt.y)) := by rw [Hnx.out]; exact o72
      replace hs := B72.size
      clear hox7 hoy7 hoz7 p1 o3 o72 g72 hat72 hlt72 B71 k0 k1 k2 m0 m1 m2
      obtain ⟨k0, kI, kP⟩ := HF.out w72 B72
      have k1 := kI k j hkm Hj.out
      have k2 := (kP j p hjn Hpt.out).2.2
      have T73 : k ≤ 100 := by omega
      clear kI kP
      go_upto_region 9 with (fail)
      go_region_held3 (fun W => W.cell? ⟨bk, 0, none⟩ = some (.slice (some ⟨b, off, none⟩) np c) ∧ W.cell? ⟨bi, offi + k, none⟩ = some (.int .i64 (j : Int)) ∧ W.cell? ⟨b, off + j * 3 + 2, none⟩ = some (.int .i64 p.z))
        (first | go_keep | exact ⟨m0, m1, m2⟩)
        ((refine step_append_lies _ (by rfl) _ _ _ (by rfl) w1.heap.size 3 i0 _ 1 8 Try.underlying49 hi0 hz0 hz1 hz2 rfl (by omega) _ k (ints (((L.take k).map (ptAt PL)).map Pt.z)) (by rfl) (hoz8.drew.alloc _) ⟨w72.heap.size, 0, none⟩ 1 1 [.int .i64 p.z] (by rfl) (by rfl) (World.news_of_block (cs := #[.int .i64 p.z]) (t := 3) (fr := (0, 0)) (heap_alloc_new w72.drew _)) (by simp [Value.oneCell']) (by omega) (by unfold maxLen; omega) (by omega) (by simp; omega) (w72.heap.size + 1) (by simp) ?_
          intro gg73 cap73 w73 o73 g73 hat73 hlt73
          have B73 : Below w1.heap.size w1 w73 := (B72.drew.alloc hs (.cells #[.int .i64 p.z] 3)).grown g73 (by simp; omega) (fun r hr => ownBlock_ge hoz8 hr)
          obtain ⟨m0, mI, mP⟩ := HF.out w73 B73
          have m1 := mI k j hkm Hj.out
          have m2 := (mP j p hjn Hpt.out).2.2
          clear mI mP))
      have hox9 := own_far (hox8.drew.alloc (.cells #[.int .i64 p.z] 3)) g73 (fun g hg => p2 g hg)
      have hoy9 := own_far (hoy8.drew.alloc (.cells #[.int .i64 p.z] 3)) g73 (fun g hg => p4 g hg)
      have p5 : Off (.slice (some ⟨gg73, 0, none⟩) (k + 1) cap73) (.slice (some ⟨gg71, 0, none⟩) (k + 1) cap71) := off_new p2.symm hat73 (fun r hr => Nat.lt_succ_of_lt (own_lt hox8 hr))
      have p6 : Off (.slice (some ⟨gg73, 0, none⟩) (k + 1) cap73) (.slice (some ⟨gg72, 0, none⟩) (k + 1) cap72) := off_new p4.symm hat73 (fun r hr => Nat.lt_succ_of_lt (own_lt hoy8 hr))
      have hoz9 : w73.ownsRow w1.heap.size 3 1 (.slice (some ⟨gg73, 0, none⟩) (k + 1) cap73) (k + 1) (ints (((L.take (k + 1)).map (ptAt PL)).map Pt.z)) := by rw [Hnx.out]; exact o73
      have hBf := B73
      have q1 := p3.symm
      have q2 := p5.symm
      have q3 := p6.symm
      clear hox8 hoy8 hoz8 p2 p3 p4 p5 p6 o73 g73 hat73 hlt73 B72 k0 k1 k2 m0 m1 m2 B73
      go_wp2
      go_roundw
      case rel => exact ⟨k + 1, by omega, by go_num, hox9, hoy9, hoz9, q1, q2, q3, hBf⟩
      case measure => simp [intOf]; omega
    · obtain rfl : k = nL := by omega
      have hall : (L.take k).map (ptAt PL) = q :: qs := by rw [← HL.out, List.take_length]; exact Hq.out
      rw [hall] at hox hoy hoz
      have hmem : ∀ p ∈ q :: qs, Near 16777216 p := by
        intro p hp
        rw [← Hq.out] at hp
        obtain ⟨j, _, rfl⟩ := List.mem_map.1 hp
        exact ptAt_near Hp.out (by decide) j
      have hbx : ∀ y ∈ (q.x :: qs.map Pt.x), -16777216 ≤ y ∧ y ≤ 16777216 := by
        intro y hy
        obtain ⟨p, hp, rfl⟩ := List.mem_map.1 (show y ∈ (q :: qs).map Pt.x from hy)
        exact (hmem p hp).1
      have hby : ∀ y ∈ (q.y :: qs.map Pt.y), -16777216 ≤ y ∧ y ≤ 16777216 := by
        intro y hy
        obtain ⟨p, hp, rfl⟩ := List.mem_map.1 (show y ∈ (q :: qs).map Pt.y from hy)
        exact (hmem p hp).2.1
      have hbz : ∀ y ∈ (q.z :: qs.map Pt.z), -16777216 ≤ y ∧ y ≤ 16777216 := by
        intro y hy
        obtain ⟨p, hp, rfl⟩ := List.mem_map.1 (show y ∈ (q :: qs).map Pt.z from hy)
        exact (hmem p hp).2.2
      have hlq : (q :: qs).length = k := by rw [← Hq.out, List.length_map, HL.out]
      have rx := maxL_range (hbx _ (List.mem_cons_self ..)) (fun y hy => hbx y (List.mem_cons_of_mem _ hy))
      have sx := minL_range (hbx _ (List.mem_cons_self ..)) (fun y hy => hbx y (List.mem_cons_of_mem _ hy))
      have ry := maxL_range (hby _ (List.mem_cons_self ..)) (fun y hy => hby y (List.mem_cons_of_mem _ hy))
      have sy := minL_range (hby _ (List.mem_cons_self ..)) (fun y hy => hby y (List.mem_cons_of_mem _ hy))
      have rz := maxL_range (hbz _ (List.mem_cons_self ..)) (fun y hy => hbz y (List.mem_cons_of_mem _ hy))
      have sz := minL_range (hbz _ (List.mem_cons_self ..)) (fun y hy => hbz y (List.mem_cons_of_mem _ hy))
      have Wx := Lib.hid (width45_any u5 k q.x (qs.map Pt.x) wr (by simpa using hlq) (Rd.of_own hox) hbx)
      have Wy := Lib.hid (width45_any u6 k q.y (qs.map Pt.y) wr (by simpa using hlq) (Rd.of_own hoy) hby)
      have Wz := Lib.hid (width45_any u7 k q.z (qs.map Pt.z) wr (by simpa using hlq) (Rd.of_own hoz) hbz)
      have HBz := Lib.hid (HB1.out.trans (hB.mono hs1))
      have HS : Hid (spreadP q qs = (maxL q.x (qs.map Pt.x) - minL q.x (qs.map Pt.x)) + (maxL q.y (qs.map Pt.y) - minL q.y (qs.map Pt.y)) + (maxL q.z (qs.map Pt.z) - minL q.z (qs.map Pt.z))) := Lib.hid rfl
      generalize hX : maxL q.x (qs.map Pt.x) - minL q.x (qs.map Pt.x) = X at *
      generalize hY : maxL q.y (qs.map Pt.y) - minL q.y (qs.map Pt.y) = Y at *
      generalize hZ : maxL q.z (qs.map Pt.z) - minL q.z (qs.map Pt.z) = Z at *
      have bx : -33554432 ≤ X ∧ X ≤ 33554432 := by omega
      have byy : -33554432 ≤ Y ∧ Y ≤ 33554432 := by omega
      have bz : -33554432 ≤ Z ∧ Z ≤ 33554432 := by omega
      obtain ⟨x0, x1⟩ := bx
      obtain ⟨y0, y1⟩ := byy
      obtain ⟨z0, z1⟩ := bz
      clear hall hB hox hoy hoz hmem hbx hby hbz hlq rx ry rz sx sy sz hX hY hZ o1 o2 o3
      go_wp2_with fail
      refine Wx.out.mono ?_
      rintro e w2 ⟨rfl, rfl⟩
      go_wp2_with fail
      refine Wy.out.mono ?_
      rintro e w2 ⟨rfl, rfl⟩
      go_wp2_with fail
      refine Wz.out.mono ?_
      rintro e w2 ⟨rfl, rfl⟩
      go_wp2
      go_ret
      exact ⟨ret_int HS.out.symm, by rw [Hbk0.out]; exact HBz.out⟩
end Go.Proofs.Ytpbpdgknjbjlcaa
