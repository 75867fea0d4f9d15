/- slices.Delete of one pair; the set's Drop. -/
import Derived.Test.YtlcmjpligaiadaaWg
import Derived.Deep.RegionLaw
namespace Go.Proofs.Ytlcmjpligaiadaa
open Go.RowKit
/-- append where there is room, as one step of a region that draws: the row is known whole. -/
theorem step_append_roomK {P : Program} {ops : Array Oper} {o : Oper} {a : Act} {w : World} {K : Act → World → Prop} {Q : Exit → Act → World → Prop} {E : Prop} (hgd : o.guard = none) (s x : Operand) (t : TypeId)
    (ho : o.op = .call { callee := .builtin .append, args := #[s, x], argTypes := #[t, t] }) (e : TypeId) (i : TypeInfo) (size : Nat) (hu : P.underlying t = some (.slice e)) (hi : P.info? e = some i) (hsz : i.size = size)
    (g n cap : Nat) (hs : a.eval s = .slice (some ⟨g, 0, none⟩) n cap) (ad : Addr) (m c : Nat) (hx : a.eval x = .slice (some ad) m c)
    (cur : List Value) (hg : Blk w g e cur) (news : List Value) (hn : news.length = m * size)
    (hsrc : ∀ j v, news[j]? = some v → w.cell? (ad.add j) = some v) (h1 : ∀ v ∈ news, v.oneCell' = true) (hroom : n + m ≤ cap) (hfit : n * size + news.length ≤ cur.length)
    (h : ∀ w', Blk w' g e (cur.take (n * size) ++ news ++ cur.drop (n * size + news.length)) → Mod (fun j => j = g) w w' → K (a.put o.dst (.slice (some ⟨g, 0, none⟩) (n + m) cap)) w') :
    if Region.wanted o (yielded ops a.tmps) = true then Oper.wp P o a w K Q else E := by
  have hw : Region.wanted o (yielded ops a.tmps) = true := by simp [Region.wanted, hgd]
  rw [if_pos hw]
  subst hsz
  have hrun := run_append_room (P := P) w t o.type e i hu hi g n cap cur.toArray hg ad m c news hn hsrc h1 hroom (by simpa using hfit)
  unfold Oper.wp
  simp [execOp, ho, resolve, invoke, builtin, hs, hx, hrun, Result.andThen]
  refine h _ ?_ ?_
  · unfold Blk
    have := setRow_heap w g cur.toArray (cur.take (n * i.size) ++ news ++ cur.drop (n * i.size + news.length)).toArray e (0, 0) hg
    simpa using this
  · exact ⟨rfl, rfl, rfl, by simp [World.setRow], fun j hj hne => setRow_other w g j _ hne⟩
def cutP (l : List Pr) (k : Nat) : List Pr := l.take k ++ l.drop (k + 1)
def CutPost (base : Nat) (sv : Value) (l : List Pr) (k n : Nat) (w : World) (e : Ending) (w' : World) : Prop :=
  ∃ v', e = .returned v' ∧ w'.ownsRow base 42 2 v' (n - 1) (pairCells (cutP l k)) ∧ Mod (fun j => sv.ownBlock = some j) w w' ∧ v'.ownBlock = sv.ownBlock
set_option maxRecDepth 100000 in
set_option maxHeartbeats 4000000 in
theorem delete_any (base : Nat) (sv : Value) (n k : Nat) (l : List Pr) (hl : l.length = n) (hn : n ≤ 4096) (hk : k < n) (w : World) (ho : w.ownsRow base 42 2 sv n (pairCells l)) :
    Calls Try.prog 68 #[sv, .int .i64 k, .int .i64 (k + 1)] w (CutPost base sv l k n w) := by
  obtain ⟨b, c, rfl⟩ := own_shape ho (by omega)
  obtain ⟨E, hcur, hEl, hnc, hcm, hbb⟩ := own_cur ho
  obtain ⟨i0, hi, hz0, hz1, hz2⟩ := info_parts info42
  obtain ⟨p, hp⟩ : ∃ p, l[k]? = some p := ⟨_, List.getElem?_eq_getElem (by omega)⟩
  obtain ⟨A, hA⟩ : ∃ A, A = pairCells (l.take k) := ⟨_, rfl⟩
  obtain ⟨D, hD⟩ : ∃ D, D = pairCells (l.drop (k + 1)) := ⟨_, rfl⟩
  have hAl : A.length = k * 2 := by rw [hA, pairs_len, List.length_take]; omega
  have hDl : D.length = (n - (k + 1)) * 2 := by rw [hD, pairs_len, List.length_drop]; omega
  have hD1 : ∀ u ∈ D, u.oneCell' = true := by rw [hD]; exact pairs_one _
  obtain ⟨pc, hpc⟩ : ∃ pc, pc = pairCells [p] := ⟨_, rfl⟩
  have hpl : pc.length = 2 := by rw [hpc]; rfl
  have hll : pairCells l = A ++ (pc ++ D) := by
    obtain ⟨hk1, hpe⟩ := List.getElem?_eq_some_iff.1 hp
    rw [hA, hD, hpc, ← pairs_append, ← pairs_append]
    have h1 : l.drop k = [p] ++ l.drop (k + 1) := by rw [List.drop_eq_getElem_cons hk1, hpe]; rfl
    rw [← h1, List.take_append_drop]
  have hfin : pairCells (cutP l k) = A ++ D := by rw [hA, hD, ← pairs_append]; rfl
  have Hfin := Lib.hid hfin
  rw [hll] at hcur
  have hDc : ∀ o, o = (k + 1) * 2 → ∀ j u, D[j]? = some u → w.cell? ((⟨b, o, none⟩ : Addr).add j) = some u := by
    rintro o rfl j u hu
    have hj : j < D.length := (List.getElem?_eq_some_iff.1 hu).1
    rw [add_off, hcur.cell, List.append_assoc, List.getElem?_append_right (by omega), List.append_assoc, List.getElem?_append_right (by omega), List.getElem?_append_left (by omega), ← hu]
    congr 1
    omega
  have HDc := Lib.hid hDc
  have HAl := Lib.hid hAl
  have HDl := Lib.hid hDl
  have HEl := Lib.hid hEl
  have Hpl := Lib.hid hpl
  have HD1 := Lib.hid hD1
  clear hl hp hA hD hAl hDl hD1 hpc hpl hll hfin hDc hEl ho
  unfold maxLen at hcm
  have n1 : (0 : Int) ≤ (k : Int) := by omega
  have n2 : (k : Int) + 1 ≤ (n : Int) := by omega
  have n3 : ((k : Int) == (k : Int) + 1) = false := by
    have : ¬ (k : Int) = (k : Int) + 1 := by omega
    simpa using this
  have n4 : (n : Int) ≤ (c : Int) := by omega
  have n5 : (k : Int) ≤ (c : Int) := by omega
  have n6 : (k : Int) ≤ (k : Int) + 1 := by omega
  have n7 : ((k : Int) + 1).toNat = k + 1 := by omega
  have n8 : (0 : Int) ≤ (k : Int) + 1 := by omega
  have n9 : IntKind.i64.wrap ((k : Int) + 1) = (k : Int) + 1 := IntWalk.i64_in _ (by omega)
  have n10 : ¬ c = k := by omega
  go_enter Try.func68, Try.ntmps68
  obtain ⟨R, hR⟩ : ∃ R, R = ((A ++ (pc ++ D)) ++ E).drop (k * 2 + D.length) := ⟨_, rfl⟩
  have hRl : R.length = (c - (n - 1)) * 2 := by
    have q1 := HAl.out
    have q2 := HDl.out
    have q3 := HEl.out
    have q4 := Hpl.out
    rw [hR, List.length_drop, List.length_append, List.length_append, List.length_append, q1, q2, q3, q4]
    omega
  have htk : ((A ++ (pc ++ D)) ++ E).take (k * 2) = A := by rw [← HAl.out, List.append_assoc, List.take_left]
  obtain ⟨Z, hZ⟩ : ∃ Z, Z = (Builtin.zeroCells #[Value.int .i64 0, .int .i64 0] 1).toList := ⟨_, rfl⟩
  have hZl : Z.length = 2 := by rw [hZ, zeroCells_len]; rfl
  have hsp : splice ((A ++ D) ++ R) ((n - 1) * 2) Z = (A ++ D) ++ (Z ++ R.drop 2) := by
    have h1 : (A ++ D).length = (n - 1) * 2 := by rw [List.length_append, HAl.out, HDl.out]; omega
    have h2 : R = R.take 2 ++ R.drop 2 := (List.take_append_drop 2 R).symm
    rw [← h1]
    have h3 := splice_at (A ++ D) (R.take 2) (R.drop 2) Z (by rw [hZl, List.length_take, hRl]; omega)
    rw [← h2] at h3
    exact h3
  have hclr : ∀ wr ty, Blk wr b 42 ((A ++ D) ++ R) → (Builtin.clear_ #[34] ty #[.slice (some ⟨b, (n - 1) * 2, none⟩) 1 (c - (n - 1))]).run Try.prog wr = .ok (.tuple #[]) (wr.setRow b ((A ++ D) ++ (Z ++ R.drop 2)).toArray) := fun wr ty hX => by
    have := run_clearK (P := Try.prog) wr 34 ty 42 (.agg #[.int .i64 0, .int .i64 0]) Try.underlying34 Try.zeroValue42 b ((n - 1) * 2) 1 (c - (n - 1)) _ 42 hX (by omega) (by
      rw [List.length_append, List.length_append, HAl.out, HDl.out, hRl]
      show (n - 1) * 2 + 1 * 2 ≤ _
      omega) (zeros_one _)
    rw [show (Value.agg #[.int .i64 0, .int .i64 0]).cells = #[Value.int .i64 0, .int .i64 0] from rfl, ← hZ, hsp] at this
    exact this
  have Hclr := Lib.hid hclr
  have Htk := Lib.hid htk
  have HR := Lib.hid hR
  have HRl := Lib.hid hRl
  have HZl := Lib.hid hZl
  have hmn : k + (n - (k + 1)) = n - 1 := by omega
  have Hmn := Lib.hid hmn
  have m1 : ((n : Int) - 1) ≤ (c : Int) := by omega
  have m2 : ((n - 1 : Nat) : Int) ≤ (n : Int) := by omega
  have m3 : ¬ c = n - 1 := by omega
  have m4 : n - (n - 1) = 1 := by omega
  have M4 := Lib.hid m4
  clear hR hRl htk hZ hZl hsp hclr hmn m4
  by_cases hcc : c = k + 1
  · obtain rfl : n = k + 1 := by omega
    subst hcc
    have hD0 : D.length = 0 := by rw [HDl.out]; omega
    have hsrc : ∀ j u, D[j]? = some u → w.cell? ((⟨b, 0, none⟩ : Addr).add j) = some u := fun j u h => by
      rw [List.getElem?_eq_none (by omega)] at h; cases h
    have Hsrc := Lib.hid hsrc
    have HD0 := Lib.hid hD0
    have hsl : k + 1 - k = 1 := by omega
    clear hsrc hD0
    go_wp2
    go_region_law (refine step_append_roomK (by rfl) (.tmp 22) (.tmp 25) 34 (by rfl) 42 i0 2 Try.underlying34 hi hz1 b k (k + 1) (by go_simp) ⟨b, 0, none⟩ 0 0 (by go_simp) _ hcur.drew D (by rw [HD0.out]) (Hsrc.out) HD1.out (by omega) (by simp only [List.length_append, HAl.out, Hpl.out, HD0.out]; omega) ?_; intro w5 b5 m5)
    rw [Htk.out, ← HR.out] at b5
    have hclr2 : ∀ ty, (Builtin.clear_ #[34] ty #[.slice (some ⟨b, k * 2, none⟩) 1 1]).run Try.prog w5 = .ok (.tuple #[]) (w5.setRow b ((A ++ D) ++ (Z ++ R.drop 2)).toArray) := fun ty => by
      have := Hclr.out w5 ty b5
      simpa only [Nat.add_sub_cancel, Nat.add_sub_cancel_left] using this
    have b6 : Blk (w5.setRow b ((A ++ D) ++ (Z ++ R.drop 2)).toArray) b 42 ((A ++ D) ++ (Z ++ R.drop 2)) := by unfold Blk; exact setRow_heap w5 b _ _ 42 _ b5
    have m6 : Mod (fun j => j = b) w5 (w5.setRow b ((A ++ D) ++ (Z ++ R.drop 2)).toArray) := ⟨rfl, rfl, rfl, by simp [World.setRow], fun j hj hne => setRow_other w5 b j _ hne⟩
    generalize w5.setRow b ((A ++ D) ++ (Z ++ R.drop 2)).toArray = W6 at hclr2 b6 m6
    have Hclr2 := Lib.hid hclr2
    clear hclr2
    go_wp2_with (simp only [Hclr2.out])
    go_ret
    refine ⟨_, rfl, ?_, ?_, rfl⟩
    · rw [Hfin.out]
      exact own_of_cur b6 (by rw [List.length_append, HAl.out, HDl.out]; omega) (by rw [List.length_append, List.length_drop, HZl.out, HRl.out]; omega) (by omega) (by unfold maxLen; omega) hbb
    · exact ((Mod.refl _ w).drew).trans ((m5.trans m6).mono (fun j _ e => by subst e; rfl))
  · have n11 : ¬ (c : Int) = (k : Int) + 1 := by omega
    go_wp2
    go_region_law (refine step_append_roomK (by rfl) (.tmp 22) (.tmp 25) 34 (by rfl) 42 i0 2 Try.underlying34 hi hz1 b k c (by go_simp) ⟨b, (k + 1) * 2, none⟩ (n - (k + 1)) (c - (k + 1)) (by go_simp) _ hcur.drew D HDl.out (HDc.out _ rfl) HD1.out (by omega) (by simp only [List.length_append, HAl.out, Hpl.out, HDl.out]; omega) ?_; intro w5 b5 m5)
    rw [Htk.out, ← HR.out] at b5
    rw [Hmn.out]
    have hsl : n - (n - 1) = 1 := M4.out
    have hclr2 := fun ty => Hclr.out w5 ty b5
    have b6 : Blk (w5.setRow b ((A ++ D) ++ (Z ++ R.drop 2)).toArray) b 42 ((A ++ D) ++ (Z ++ R.drop 2)) := by unfold Blk; exact setRow_heap w5 b _ _ 42 _ b5
    have m6 : Mod (fun j => j = b) w5 (w5.setRow b ((A ++ D) ++ (Z ++ R.drop 2)).toArray) := ⟨rfl, rfl, rfl, by simp [World.setRow], fun j hj hne => setRow_other w5 b j _ hne⟩
    generalize w5.setRow b ((A ++ D) ++ (Z ++ R.drop 2)).toArray = W6 at hclr2 b6 m6
    have Hclr2 := Lib.hid hclr2
    clear hclr2
    go_wp2_with (simp only [Hclr2.out])
    go_ret
    refine ⟨_, rfl, ?_, ?_, rfl⟩
    · rw [Hfin.out]
      exact own_of_cur b6 (by rw [List.length_append, HAl.out, HDl.out]; omega) (by rw [List.length_append, List.length_drop, HZl.out, HRl.out]; omega) (by omega) (by unfold maxLen; omega) hbb
    · exact ((Mod.refl _ w).drew).trans ((m5.trans m6).mono (fun j _ e => by subst e; rfl))
def drP (l : List Pr) (p : Pr) : List Pr := l.filter fun q => !decide (q = p)
theorem drP_le (l : List Pr) (p : Pr) : (drP l p).length ≤ l.length := List.length_filter_le _ _
theorem drP_snoc (l : List Pr) (p q : Pr) : drP (l ++ [q]) p = if q = p then drP l p else drP l p ++ [q] := by
  unfold drP
  rw [List.filter_append]
  by_cases h : q = p <;> simp [h]
theorem drP_none {l : List Pr} {p : Pr} (h : hasP l p = false) : drP l p = l := by
  unfold drP
  rw [List.filter_eq_self]
  intro q hq
  have : ¬ q = p := by rintro rfl; simp [hasP, hq] at h
  simp [this]
theorem drP_cut {l : List Pr} {p : Pr} (hr : Rising l) (h : hasP l p = true) : cutP l (idxP l p) = drP l p := by
  have hm : l[idxP l p]? = some p := (mem_idx hr p).1 (by simpa [hasP] using h)
  obtain ⟨hk, he⟩ := List.getElem?_eq_some_iff.1 hm
  have hl : l = l.take (idxP l p) ++ p :: l.drop (idxP l p + 1) := by
    have h1 : l.drop (idxP l p) = p :: l.drop (idxP l p + 1) := by rw [List.drop_eq_getElem_cons hk, he]
    rw [← h1, List.take_append_drop]
  have hr' := hr
  rw [hl] at hr'
  obtain ⟨_, a2, a3⟩ := List.pairwise_append.1 hr'
  obtain ⟨b1, _⟩ := List.pairwise_cons.1 a2
  have q1 : (l.take (idxP l p)).filter (fun q => !decide (q = p)) = l.take (idxP l p) := by
    rw [List.filter_eq_self]
    intro q hq
    have : ¬ q = p := by rintro rfl; exact ltP_irrefl _ (a3 q hq q (by simp))
    simp [this]
  have q2 : (l.drop (idxP l p + 1)).filter (fun q => !decide (q = p)) = l.drop (idxP l p + 1) := by
    rw [List.filter_eq_self]
    intro q hq
    have : ¬ q = p := by rintro rfl; exact ltP_irrefl _ (b1 q hq)
    simp [this]
  unfold drP cutP
  conv => rhs; rw [hl]
  rw [List.filter_append, List.filter_cons, q1, q2]
  simp
theorem drP_rising {l : List Pr} (hr : Rising l) (p : Pr) : Rising (drP l p) := hr.filter _
theorem cutP_len {l : List Pr} {k : Nat} (h : k < l.length) : (cutP l k).length = l.length - 1 := by
  unfold cutP
  rw [List.length_append, List.length_take, List.length_drop]
  omega
def DropPost (s base room : Nat) (v : Value) (l : List Pr) (p : Pr) (w : World) (e : Ending) (w' : World) : Prop :=
  e = .returned (.bool (hasP l p)) ∧ ∃ v', SetAt w' s base v' room (drP l p) ∧ Mod (Foot s v) w w' ∧ ∀ j, Foot s v' j → Foot s v j ∨ w.heap.size ≤ j
set_option maxRecDepth 100000 in
set_option maxHeartbeats 4000000 in
theorem drop_any (s base room : Nat) (v : Value) (l : List Pr) (p : Pr) (w : World) (hs : SetAt w s base v room l) :
    Calls Try.prog 40 #[.pointer (some ⟨s, 0, none⟩), .agg #[.int .i64 p.1, .int .i64 p.2]] w (DropPost s base room v l p w) := by
  obtain ⟨p1, p2⟩ := p
  have hlen := hs.len
  have hrm := hs.room
  have hfull := hs.full
  have Hrise := Lib.hid hs.rising
  obtain ⟨sa, sc, rfl, s1, s2⟩ := hs.rd.shape
  have hs' := hs
  obtain ⟨n, hn⟩ : ∃ n, n = l.length := ⟨_, rfl⟩
  have hlt := hs.head.lt
  have hsn := hs.ne
  go_enter Try.func40, Try.ntmps40
  go_wp2_with fail
  obtain ⟨W0, hW0⟩ : ∃ W0, w.alloc (.cells #[.int .i64 p1, .int .i64 p2] 42) = W0 := ⟨_, rfl⟩
  have x0 : Blk W0 w.heap.size 42 [.int .i64 p1, .int .i64 p2] := by rw [← hW0]; exact Blk.new w 42 [_, _]
  have B0 : Below w.heap.size w W0 := by rw [← hW0]; exact (Below.refl _ w).alloc (Nat.le_refl _) _
  have hs0 := hs.new B0
  rw [hW0]
  clear hW0
  refine (find_any s base room _ l (p1, p2) _ hs0).mono ?_
  rintro e w1 ⟨rfl, B1⟩
  have B01 : Below w.heap.size w w1 := B0.trans (B1.mono B0.size)
  have hs1 := hs0.new B1
  cases hhas : hasP l (p1, p2) with
  | false =>
    have hd := drP_none hhas
    have Hd := Lib.hid hd
    have Hhas := Lib.hid hhas
    clear hd hhas hn
    go_wp2
    go_ret
    exact ⟨ret_bool Hhas.out.symm, _, by rw [Hd.out]; exact hs1, below_mod B01, fun j h => .inl h⟩
  | true =>
    have hd := drP_cut hs.rising hhas
    have hm : l[idxP l (p1, p2)]? = some (p1, p2) := (mem_idx hs.rising _).1 (by simpa [hasP] using hhas)
    have hk := (List.getElem?_eq_some_iff.1 hm).1
    have hcl := cutP_len hk
    obtain ⟨k, hke⟩ : ∃ k, k = idxP l (p1, p2) := ⟨_, rfl⟩
    rw [← hke] at hd hk hcl ⊢
    have hdel := fun W (ho : W.ownsRow base 42 2 (.slice sa n sc) n (pairCells l)) => delete_any base (.slice sa n sc) n k l hn.symm (by omega) (by omega) W ho
    have Hdel := Lib.hid hdel
    have Hd := Lib.hid hd
    have Hcl := Lib.hid hcl
    have hown1 := hs1.own
    have hhd1 := hs1.head
    rw [← hn] at hown1 hhd1 hsn hlen
    have c0 := hhd1.cell 0
    simp only [List.getElem?_cons_zero] at c0
    rw [← hn] at hk s1
    have Hn := Lib.hid hn
    have Hhas := Lib.hid hhas
    clear hdel hd hcl hm hke hhas hn
    go_wp2_with fail
    refine (Hdel.out w1 hown1).mono ?_
    rintro e w2 ⟨v2, rfl, o2, m2, q2⟩
    obtain ⟨na, nc, rfl, n1, n2⟩ := (Rd.of_own o2).shape
    have hd2 := hhd1.mod m2 hsn
    have k0 := hd2.cell 0
    have f0 := hd2.frozen 0
    have hn2 := own_ne o2 hd2 (by decide)
    simp only [List.getElem?_cons_zero] at k0
    go_wp2
    go_ret
    refine ⟨ret_bool Hhas.out.symm, .slice na (n - 1) nc, ?_, ?_, ?_⟩
    · rw [← Hd.out]
      refine ⟨hd2.set 0 _, ?_, ?_, ?_, hrm⟩
      · rw [Hcl.out, ← Hn.out]
        exact ownsRow_setCell_other (a := ⟨s, 0, none⟩) o2 hn2 _
      · rw [Hd.out]; exact drP_rising Hrise.out _
      · rw [Hcl.out]; omega
    · rw [← Hn.out]
      exact ((below_mod B01).trans (m2.mono (fun j _ e => .inr e))).setCell (p := ⟨s, 0, none⟩) (fun _ => .inl rfl) _
    · rw [← Hn.out]
      rintro j (rfl | e)
      · exact .inl (.inl rfl)
      · exact .inl (.inr (q2 ▸ e))
end Go.Proofs.Ytlcmjpligaiadaa
