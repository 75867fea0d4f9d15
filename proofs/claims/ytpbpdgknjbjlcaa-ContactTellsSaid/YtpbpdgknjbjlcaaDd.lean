/- Contacts: how two cores that may be are told apart. -/
import Derived.Test.YtpbpdgknjbjlcaaDc
import Derived.Test.YtpbpdgknjbjlcaaDa
namespace Go.Proofs.Ytpbpdgknjbjlcaa
open Go.RowKit
attribute [local go_sem] Oper.semAt_some
noncomputable def foldA (a b : Cor) (pre : List Pt) : ApSt := pre.foldl (stepA a b) ⟨⟨0, 0, 1048576⟩, -a.r - b.r, true⟩
theorem body_close {bs : List Nat} {o6 : Nat} {V W W' : World} {xs ys : List Value} (hM : Mod (fun j => j = o6 ∨ j = o6 + 1 ∨ V.heap.size ≤ j) V W) (M : Mod (fun j => j = o6 ∨ j = o6 + 1) W W') (h6 : Blk W o6 28 xs) (h7 : Blk W (o6 + 1) 4 ys) (hbs : ∀ k ∈ bs, k < V.heap.size ∧ k ≠ o6 ∧ k ≠ o6 + 1) :
    KeepsOthers W W' ∧ (KeepB bs W W' ∧ KeepP pvP W W') ∧ Mod (fun j => j = o6 ∨ j = o6 + 1 ∨ V.heap.size ≤ j) V W' := by
  refine ⟨keepsOthers_mod M (fun b o hb ho => ?_), ⟨KeepB.mod M (fun b hb => ?_), fun b o hb ho => ?_⟩, hM.trans (M.mono (fun j _ h => by rcases h with rfl | rfl <;> simp))⟩
  · rintro (rfl | rfl)
    · unfold Blk at h6; rw [h6] at hb; obtain rfl := Option.some.inj hb; cases ho
    · unfold Blk at h7; rw [h7] at hb; obtain rfl := Option.some.inj hb; cases ho
  · have := hbs b hb
    have := hM.size
    exact ⟨by omega, by rintro (rfl | rfl) <;> omega⟩
  · obtain ⟨cs, fr, rfl⟩ := ho
    have hl := (Array.getElem?_eq_some_iff.1 hb).1
    rw [M.block b hl (by
      rintro (rfl | rfl)
      · unfold Blk at h6; rw [h6] at hb; cases hb
      · unfold Blk at h7; rw [h7] at hb; cases hb)]
    exact hb
theorem ways29_any (cva cvb : List Value) (w : World) (va vb : Value) (ha : va = .agg cva.toArray) (hb : vb = .agg cvb.toArray) (hla : cva.length = 4) (hlb : cvb.length = 4) :
    Calls Try.prog 29 #[va, vb] w fun e w' => e = .returned (.func (.func 47) #[] #[.pointer (some ⟨w.heap.size, 0, none⟩), .pointer (some ⟨w.heap.size + 1, 0, none⟩)]) ∧ w' = (w.alloc (.cells cva.toArray 24)).alloc (.cells cvb.toArray 24) := by
  obtain ⟨a0, a1, a2, a3, rfl⟩ : ∃ a0 a1 a2 a3, cva = [a0, a1, a2, a3] := by
    match cva, hla with
    | [a0, a1, a2, a3], _ => exact ⟨a0, a1, a2, a3, rfl⟩
  obtain ⟨b0, b1, b2, b3, rfl⟩ : ∃ b0 b1 b2 b3, cvb = [b0, b1, b2, b3] := by
    match cvb, hlb with
    | [b0, b1, b2, b3], _ => exact ⟨b0, b1, b2, b3, rfl⟩
  subst ha hb
  go_enter Try.func29, Try.ntmps29
  go_wp2
  go_ret
  exact ⟨rfl, rfl⟩
set_option maxRecDepth 100000 in
set_option maxHeartbeats 4000000 in
theorem apart8_yes (pva ava eva pvb avb evb : Value) (a b : Cor) (w : World) (pa : Rd w pva a.P.length 3 (ptCells a.P)) (aa : Rd w ava a.A.length 3 (ptCells a.A)) (ea : Rd w eva a.E.length 3 (ptCells a.E)) (pb : Rd w pvb b.P.length 3 (ptCells b.P)) (ab : Rd w avb b.A.length 3 (ptCells b.A)) (eb : Rd w evb b.E.length 3 (ptCells b.E)) (hma : mayB a = true) (hmb : mayB b = true) :
    Calls Try.prog 8 #[corV pva ava eva a.r, corV pvb avb evb b.r] w fun e w' => e = .returned (.tuple #[apV (apartP a b).ax (apartP a b).gap, .bool true]) ∧ Below w.heap.size w w' := by
  have FA := may_facts hma
  have FB := may_facts hmb
  have HA : Hid (∀ W, Below w.heap.size w W → Calls Try.prog 28 #[corV pva ava eva a.r] W fun e W' => e = .returned (.bool true) ∧ Below W.heap.size W W') := Lib.hid fun W hW => by rw [← hma]; exact may28_any pva ava eva a W (pa.new hW) (aa.new hW) (ea.new hW)
  have HB : Hid (∀ W, Below w.heap.size w W → Calls Try.prog 28 #[corV pvb avb evb b.r] W fun e W' => e = .returned (.bool true) ∧ Below W.heap.size W W') := Lib.hid fun W hW => by rw [← hmb]; exact may28_any pvb avb evb b W (pb.new hW) (ab.new hW) (eb.new hW)
  have HPa := Lib.hid pa
  have HAa := Lib.hid aa
  have HEa := Lib.hid ea
  have HPb := Lib.hid pb
  have HAb := Lib.hid ab
  have HEb := Lib.hid eb
  have B0 : Below w.heap.size w (((w.alloc (.cells [pva, ava, eva, .int .i64 a.r].toArray 24)).alloc (.cells [pvb, avb, evb, .int .i64 b.r].toArray 24)).alloc (.cells [.int .i64 0, .int .i64 0, .int .i64 0, .int .i64 0].toArray 28)) := (((Below.refl _ w).alloc (Nat.le_refl _) _).alloc (by simp) _).alloc (by simp; omega) _
  have hb0 := ((Blk.newAt (w := w) (b := w.heap.size) rfl 24 [pva, ava, eva, .int .i64 a.r]).alloc (.cells [pvb, avb, evb, .int .i64 b.r].toArray 24)).alloc (.cells [.int .i64 0, .int .i64 0, .int .i64 0, .int .i64 0].toArray 28)
  have hb1 := (Blk.newAt (w := w.alloc (.cells [pva, ava, eva, .int .i64 a.r].toArray 24)) (b := w.heap.size + 1) (by simp) 24 [pvb, avb, evb, .int .i64 b.r]).alloc (.cells [.int .i64 0, .int .i64 0, .int .i64 0, .int .i64 0].toArray 28)
  have hb2 := Blk.newAt (w := (w.alloc (.cells [pva, ava, eva, .int .i64 a.r].toArray 24)).alloc (.cells [pvb, avb, evb, .int .i64 b.r].toArray 24)) (b := w.heap.size + 1 + 1) (by simp) 28 [.int .i64 0, .int .i64 0, .int .i64 0, .int .i64 0]
  obtain ⟨AR, hAR⟩ : ∃ v, v = apartP a b := ⟨_, rfl⟩
  rw [← hAR]
  have HAR := Lib.hid hAR
  have g1 := IntWalk.i64_in (-a.r) (by have := FA.r0; have := FA.r1; omega)
  have g2 := IntWalk.i64_in (-a.r - b.r) (by have := FA.r0; have := FA.r1; have := FB.r0; have := FB.r1; omega)
  clear pa aa ea pb ab eb hAR
  refine (callsIn_wide (n := 4)).1 ?_
  refine callsIn_of_wp_marks Try.func8 rfl trivial ?_ rfl
  simp only [Try.ntmps8, List.size_toArray, List.length_cons, List.length_nil, Nat.reduceAdd, Nat.reduceSub, Array.replicate_succ, Array.replicate_zero, List.push_toArray, List.append_toArray, List.nil_append, List.cons_append]
  refine wpIn_wide.2 ?_
  go_upto_region 1 with (fail)
  obtain ⟨w1, hw1⟩ : ∃ w1, (((w.alloc (.cells [pva, ava, eva, .int .i64 a.r].toArray 24)).alloc (.cells [pvb, avb, evb, .int .i64 b.r].toArray 24)).alloc (.cells [.int .i64 0, .int .i64 0, .int .i64 0, .int .i64 0].toArray 28)) = w1 := ⟨_, rfl⟩
  change Code.wp _ _ _ _ (((w.alloc (.cells [pva, ava, eva, .int .i64 a.r].toArray 24)).alloc (.cells [pvb, avb, evb, .int .i64 b.r].toArray 24)).alloc (.cells [.int .i64 0, .int .i64 0, .int .i64 0, .int .i64 0].toArray 28))
  rw [hw1] at B0 hb0 hb1 hb2 ⊢
  clear hw1
  obtain ⟨c0, hc0⟩ : ∃ c, c = w.heap.size := ⟨_, rfl⟩
  simp only [← hc0] at hb0 hb1 hb2 ⊢
  have Hc0 := Lib.hid hc0
  have HB1 := Lib.hid B0
  have hs1 := B0.size
  have k0 : _ = some pva := hb0.cell 0
  have k1 : _ = some ava := hb0.cell 1
  have k2 : _ = some eva := hb0.cell 2
  have k3 : _ = some (Value.int .i64 a.r) := hb0.cell 3
  have Hb0 := Lib.hid hb0
  have Hb1 := Lib.hid hb1
  have Hb2 := Lib.hid hb2
  clear hc0 B0 hb0 hb1 hb2
  go_wp2_with fail
  refine (HA.out w1 HB1.out).mono ?_
  rintro e w2 ⟨rfl, hB2⟩
  have HB2 := Lib.hid (HB1.out.trans (hB2.mono hs1))
  have hs2 := HB2.out.size
  have hb0 := Hb0.out.below hB2 Hb0.out.lt
  have hb1 := Hb1.out.below hB2 Hb1.out.lt
  have hb2 := Hb2.out.below hB2 Hb2.out.lt
  clear k0 k1 k2 k3 hB2 Hb0 Hb1 Hb2
  have k0 : _ = some pvb := hb1.cell 0
  have k1 : _ = some avb := hb1.cell 1
  have k2 : _ = some evb := hb1.cell 2
  have k3 : _ = some (Value.int .i64 b.r) := hb1.cell 3
  have Hb0 := Lib.hid hb0
  have Hb1 := Lib.hid hb1
  have Hb2 := Lib.hid hb2
  clear hb0 hb1 hb2
  go_wp2_with fail
  refine (HB.out w2 HB2.out).mono ?_
  rintro e w3 ⟨rfl, hB3⟩
  have HB3 := Lib.hid (HB2.out.trans (hB3.mono hs2))
  have hs3 := HB3.out.size
  have hb0 := Hb0.out.below hB3 Hb0.out.lt
  have hb1 := Hb1.out.below hB3 Hb1.out.lt
  have hb2 := Hb2.out.below hB3 Hb2.out.lt
  clear k0 k1 k2 k3 hB3 Hb0 Hb1 Hb2 HA HB HB1 HB2 hs1 hs2
  have k3 : _ = some (Value.int .i64 a.r) := hb0.cell 3
  have j3 : _ = some (Value.int .i64 b.r) := hb1.cell 3
  have lb0 := hb0.lt
  have lb1 := hb1.lt
  have i0 : _ = some pva := hb0.cell 0
  have i1 : _ = some ava := hb0.cell 1
  have i2 : _ = some eva := hb0.cell 2
  have j0 : _ = some pvb := hb1.cell 0
  have j1 : _ = some avb := hb1.cell 1
  have j2 : _ = some evb := hb1.cell 2
  have Hb0 := Lib.hid hb0
  have Hb1 := Lib.hid hb1
  have Hb2 := Lib.hid hb2
  clear hb0 hb1 hb2
  go_wp2_with (go_at_call 29; refine (ways29_any [pva, ava, eva, .int .i64 a.r] [pvb, avb, evb, .int .i64 b.r] _ _ _ rfl rfl rfl rfl).mono ?_; rintro e w4 ⟨rfl, rfl⟩)
  clear k3 j3 i0 i1 i2 j0 j1 j2
  obtain ⟨V, hV⟩ : ∃ V, (((w3.alloc (.cells #[.int .i64 0, .int .i64 0, .int .i64 1048576, .int .i64 (-a.r - b.r)] 28)).alloc (.cells #[.bool true] 4)).alloc (.cells #[pva, ava, eva, .int .i64 a.r] 24)).alloc (.cells #[pvb, avb, evb, .int .i64 b.r] 24) = V := ⟨_, rfl⟩
  have q6 : Blk V w3.heap.size 28 [.int .i64 0, .int .i64 0, .int .i64 1048576, .int .i64 (-a.r - b.r)] := by rw [← hV]; exact (((Blk.new w3 28 [_, _, _, _]).alloc _).alloc _).alloc _
  have q7 : Blk V (w3.heap.size + 1) 4 [.bool true] := by rw [← hV]; exact ((Blk.newAt (w := w3.alloc _) (by simp) 4 [.bool true]).alloc _).alloc _
  have qa : Blk V (w3.heap.size + 1 + 1) 24 [pva, ava, eva, .int .i64 a.r] := by rw [← hV]; exact (Blk.newAt (w := (w3.alloc _).alloc _) (by simp) 24 [pva, ava, eva, .int .i64 a.r]).alloc _
  have qb : Blk V (w3.heap.size + 1 + 1 + 1) 24 [pvb, avb, evb, .int .i64 b.r] := by rw [← hV]; exact Blk.newAt (w := ((w3.alloc _).alloc _).alloc _) (by simp) 24 [pvb, avb, evb, .int .i64 b.r]
  have BV : Below w3.heap.size w3 V := by rw [← hV]; exact ((((Below.refl _ w3).alloc (Nat.le_refl _) _).alloc (by simp) _).alloc (by simp; omega) _).alloc (by simp; omega) _
  have hVs : V.heap.size = w3.heap.size + 1 + 1 + 1 + 1 := by rw [← hV]; simp
  rw [hV]
  clear hV
  have hw3 := HB3.out.size
  have lc := Hb2.out.lt
  obtain ⟨o6, ho6⟩ : ∃ o, o = w3.heap.size := ⟨_, rfl⟩
  have v0 := Hb0.out.below BV Hb0.out.lt
  have v1 := Hb1.out.below BV Hb1.out.lt
  have v2 := Hb2.out.below BV Hb2.out.lt
  have BwV := HB3.out.trans (BV.mono hs3)
  simp only [← ho6] at q6 q7 qa qb hVs lc lb0 lb1 ⊢
  have vPa := HPa.out.new BwV
  have vAa := HAa.out.new BwV
  have vEa := HEa.out.new BwV
  have vPb := HPb.out.new BwV
  have vAb := HAb.out.new BwV
  have vEb := HEb.out.new BwV
  have hwo : w.heap.size ≤ o6 := by rw [ho6]; exact hw3
  obtain ⟨bs, hbs⟩ : ∃ bs, bs = (o6 + 1 + 1) :: (o6 + 1 + 1 + 1) :: (obs pva a.P.length ++ (obs ava a.A.length ++ (obs eva a.E.length ++ (obs pvb b.P.length ++ (obs avb b.A.length ++ obs evb b.E.length))))) := ⟨_, rfl⟩
  have hbsV : ∀ k ∈ bs, k < V.heap.size ∧ k ≠ o6 ∧ k ≠ o6 + 1 := by
    intro k hk
    rw [hbs] at hk
    simp only [List.mem_cons, List.mem_append] at hk
    rcases hk with rfl | rfl | h | h | h | h | h | h
    · omega
    · omega
    · have := obs_lt HPa.out h; omega
    · have := obs_lt HAa.out h; omega
    · have := obs_lt HEa.out h; omega
    · have := obs_lt HPb.out h; omega
    · have := obs_lt HAb.out h; omega
    · have := obs_lt HEb.out h; omega
  have catA : Cat V (o6 + 1 + 1) a bs pva ava eva := ⟨qa, vPa, vAa, vEa, by rw [hbs]; simp, fun hn k e => by rw [hbs]; simp [obs_mem hn e], fun hn k e => by rw [hbs]; simp [obs_mem hn e], fun hn k e => by rw [hbs]; simp [obs_mem hn e]⟩
  have catB : Cat V (o6 + 1 + 1 + 1) b bs pvb avb evb := ⟨qb, vPb, vAb, vEb, by rw [hbs]; simp, fun hn k e => by rw [hbs]; simp [obs_mem hn e], fun hn k e => by rw [hbs]; simp [obs_mem hn e], fun hn k e => by rw [hbs]; simp [obs_mem hn e]⟩
  have hVo : o6 + 4 ≤ V.heap.size := by omega
  clear hVs
  have HPV := Lib.hid vPa
  have HQV := Lib.hid vPb
  have Hbs := Lib.hid hbsV
  have Hv0 := Lib.hid v0
  have Hv1 := Lib.hid v1
  have Hv2 := Lib.hid v2
  have HBV := Lib.hid BwV
  have Ho6 := Lib.hid ho6
  clear hbs BV v0 v1 v2 BwV ho6 vPa vAa vEa vPb vAb vEb qa qb HB3 Hb0 Hb1 Hb2 hw3 hs3
  refine wpIn_wide.1 (range_listP (F := Fence.wide) (n := 3) rfl (by decide) (gf := 47) (lb := #[.pointer (some ⟨o6 + 1 + 1, 0, none⟩), .pointer (some ⟨o6 + 1 + 1 + 1, 0, none⟩)]) rfl trivial (enters_of Try.func47 (by kernel_rfl) rfl) (pv := pvP) (fun _ h => pvP_cells h)
    (ways_seq 2 (by decide) (o6 + 1 + 1) (o6 + 1 + 1 + 1) a b bs pva ava eva pvb avb evb V catA catB (fun k hk => (hbsV k hk).1) hma hmb)
    (fun k hk => (hbsV k hk).1) (Below.refl _ _) (fun _ => rfl)
    (fun pre W => Blk W o6 28 [.int .i64 (foldA a b pre).ax.x, .int .i64 (foldA a b pre).ax.y, .int .i64 (foldA a b pre).ax.z, .int .i64 (foldA a b pre).gap] ∧ Blk W (o6 + 1) 4 [.bool (foldA a b pre).first] ∧ Mod (fun j => j = o6 ∨ j = o6 + 1 ∨ V.heap.size ≤ j) V W)
    (fun _ _ _ => False)
    ?own ?ownx ⟨q6, q7, Mod.refl _ _⟩
    (fun x z => { tmps := List.toArray (corV pva ava eva a.r :: corV pvb avb evb b.r :: .pointer (some ⟨c0, 0, none⟩) :: .pointer (some ⟨c0 + 1, 0, none⟩) :: .pointer (some ⟨c0 + 1 + 1, 0, none⟩) :: .bool false :: .pointer (some ⟨o6, 0, none⟩) :: .pointer (some ⟨o6 + 1, 0, none⟩) :: .pointer (some ⟨z, 0, none⟩) :: undef :: undef :: undef :: undef :: .agg #[pva, ava, eva, .int .i64 a.r] :: .bool true :: .bool false :: .bool false :: .agg #[pvb, avb, evb, .int .i64 b.r] :: .bool true :: .bool false :: .bool false :: undef :: .agg #[.int .i64 0, .int .i64 0, .int .i64 1048576] :: .pointer (some ⟨c0, 3, none⟩) :: .int .i64 a.r :: .int .i64 (-a.r) :: .pointer (some ⟨c0 + 1, 3, none⟩) :: .int .i64 b.r :: .int .i64 (-a.r - b.r) :: .agg #[.int .i64 0, .int .i64 0, .int .i64 1048576, .int .i64 (-a.r - b.r)] :: .agg #[pva, ava, eva, .int .i64 a.r] :: .agg #[pvb, avb, evb, .int .i64 b.r] :: .func (.func 47) #[] #[.pointer (some ⟨o6 + 1 + 1, 0, none⟩), .pointer (some ⟨o6 + 1 + 1 + 1, 0, none⟩)] :: ptV x :: undef :: undef :: undef :: undef :: undef :: undef :: undef :: undef :: undef :: undef :: undef :: undef :: undef :: undef :: undef :: undef :: undef :: undef :: undef :: undef :: undef :: undef :: undef :: undef :: undef :: undef :: undef :: undef :: undef :: undef :: undef :: undef :: undef :: undef :: []), defers := [] })
    (fun x => .cells #[.int .i64 x.x, .int .i64 x.y, .int .i64 x.z] 26)
    ?assign ?body ?done ?stop)
  case own =>
    rintro pre A B row ⟨h1, h2, h3⟩ hg hr
    exact ⟨h1.grown hg (fun e => by have := (hr _ e).1; omega), h2.grown hg (fun e => by have := (hr _ e).1; omega), h3.grown hg (fun j e _ => .inr (.inr (hr j e).1))⟩
  case ownx => exact fun c pre A B row hs hg hr => hs
  case assign =>
    intro l x W K hK
    gi_wp2
    exact hK
  case stop => exact fun D c pre W hD hpos hs hK => hs.elim
  case done =>
    rintro D W hD ⟨h6, h7, hM⟩ hK
    have hAR : AR = foldA a b (waysP a b) := HAR.out
    rw [← hAR] at h6
    have hW4 := Hv2.out.mod hM (by omega)
    have e0 : _ = some (Value.int .i64 AR.ax.x) := h6.cell 0
    have e1 : _ = some (Value.int .i64 AR.ax.y) := h6.cell 1
    have e2 : _ = some (Value.int .i64 AR.ax.z) := h6.cell 2
    have e3 : _ = some (Value.int .i64 AR.gap) := h6.cell 3
    have z0 : _ = some (Value.int .i64 0) := hW4.cell 0
    have z1 : _ = some (Value.int .i64 0) := hW4.cell 1
    have z2 : _ = some (Value.int .i64 0) := hW4.cell 2
    have z3 : _ = some (Value.int .i64 0) := hW4.cell 3
    have f0 := hW4.frozen 0
    have f1 := hW4.frozen 1
    have f2 := hW4.frozen 2
    have f3 := hW4.frozen 3
    have hne : D ≠ c0 + 1 + 1 := by omega
    have hK9 : ((((W.setCell ⟨c0 + 1 + 1, 0, none⟩ (.int .i64 AR.ax.x)).setCell ⟨c0 + 1 + 1, 1, none⟩ (.int .i64 AR.ax.y)).setCell ⟨c0 + 1 + 1, 2, none⟩ (.int .i64 AR.ax.z)).setCell ⟨c0 + 1 + 1, 3, none⟩ (.int .i64 AR.gap)).heap[D]? = some (.deferred (some [])) := by
      rw [Below.heap_setCell _ _ _ D hne, Below.heap_setCell _ _ _ D hne, Below.heap_setCell _ _ _ D hne, Below.heap_setCell _ _ _ D hne]
      exact hK
    have hfin := (((hW4.set 0 (.int .i64 AR.ax.x)).set 1 (.int .i64 AR.ax.y)).set 2 (.int .i64 AR.ax.z)).set 3 (.int .i64 AR.gap)
    have Hfin := Lib.hid hfin
    have HK9 := Lib.hid hK9
    have HM := Lib.hid hM
    have hc0 := Hc0.out
    have HBf := Lib.hid ((((HBV.out.trans (hM.below (B := w.heap.size) HBV.out.size (fun j h1 h2 => by omega))).setCell (p := ⟨c0 + 1 + 1, 0, none⟩) (by simp only; omega) (.int .i64 AR.ax.x)).setCell (p := ⟨c0 + 1 + 1, 1, none⟩) (by simp only; omega) (.int .i64 AR.ax.y)).setCell (p := ⟨c0 + 1 + 1, 2, none⟩) (by simp only; omega) (.int .i64 AR.ax.z))
    clear hfin hK9 hM hAR hW4 hK hc0
    gi_wp2
    go_wp2
    obtain ⟨w9, hw9⟩ : ∃ w9, ((((W.setCell ⟨c0 + 1 + 1, 0, none⟩ (.int .i64 AR.ax.x)).setCell ⟨c0 + 1 + 1, 1, none⟩ (.int .i64 AR.ax.y)).setCell ⟨c0 + 1 + 1, 2, none⟩ (.int .i64 AR.ax.z)).setCell ⟨c0 + 1 + 1, 3, none⟩ (.int .i64 AR.gap)) = w9 := ⟨_, rfl⟩
    have hc0 := Hc0.out
    have HBg := Lib.hid (HBf.out.setCell (p := ⟨c0 + 1 + 1, 3, none⟩) (by simp only; omega) (.int .i64 AR.gap))
    rw [hw9] at Hfin HK9 HBg ⊢
    clear hw9 hc0
    refine ⟨by simp, .inl ⟨_, _, rfl, run_takeDeferred HK9.out, ?_⟩⟩
    have mD : Mod (fun j => j = D) w9 (w9.putObj D (.deferred none)) := (Mod.refl _ _).putObj D _ (fun _ => rfl)
    have hfin9 := Hfin.out.mod mD (Ne.symm hne)
    have r0 : _ = some (Value.int .i64 AR.ax.x) := hfin9.cell 0
    have r1 : _ = some (Value.int .i64 AR.ax.y) := hfin9.cell 1
    have r2 : _ = some (Value.int .i64 AR.ax.z) := hfin9.cell 2
    have r3 : _ = some (Value.int .i64 AR.gap) := hfin9.cell 3
    have hVw := HBV.out.size
    refine ⟨.tuple #[apV AR.ax AR.gap, .bool true], ?_, rfl, HBg.out.trans (mD.below (B := w.heap.size) HBg.out.size (fun j h1 h2 => by omega))⟩
    simp [results, Try.f8, go_sem, r0, r1, r2, r3]
  case body =>
    rintro li pre x W z hl ⟨r, hrr⟩ ⟨h6, h7, hM⟩ ⟨post, hpost⟩ hz hzc
    have hbz : Blk W z 26 x.cells := hzc
    obtain ⟨st, hst⟩ : ∃ st, st = foldA a b pre := ⟨_, rfl⟩
    rw [← hst] at h6 h7
    have hstep : foldA a b (pre ++ [x]) = stepA a b st x := by rw [hst]; unfold foldA; rw [List.foldl_append]; rfl
    have Hstep := Lib.hid hstep
    have e60 : _ = some (Value.int .i64 st.ax.x) := h6.cell 0
    have ez0 : _ = some (Value.int .i64 x.x) := hbz.cell 0
    have ez1 : _ = some (Value.int .i64 x.y) := hbz.cell 1
    have ez2 : _ = some (Value.int .i64 x.z) := hbz.cell 2
    have hc1 : CallsIn (Fence.wide.inRound li) 0 Try.prog 30 _ _ _ := (callsIn_wide (n := 0)).2 (lengthen30_any x W)
    obtain ⟨q, hq⟩ : ∃ q, q = (lenP x).1 := ⟨_, rfl⟩
    obtain ⟨is, his⟩ : ∃ is, is = (lenP x).2 := ⟨_, rfl⟩
    rw [← hq, ← his] at hc1
    have Hq := Lib.hid hq
    have His := Lib.hid his
    clear hst hstep hq his e60
    gi_wp2_with fail
    refine ⟨trivial, hc1.mono ?_⟩
    rintro e W2 ⟨rfl, B2⟩
    have hB3 : Below W.heap.size W (W2.alloc (.cells #[.int .i64 q.x, .int .i64 q.y, .int .i64 q.z] 26)) := B2.alloc B2.size _
    have H6 := Lib.hid h6
    have H7 := Lib.hid h7
    have HM := Lib.hid hM
    clear h6 h7 hM hbz ez0 ez1 ez2 hc1 hzc
    cases is with
    | false =>
      have hnew : foldA a b (pre ++ [x]) = st := by rw [Hstep.out]; unfold stepA; rw [← His.out]; rfl
      have h63 := H6.out.below hB3 H6.out.lt
      have h73 := H7.out.below hB3 H7.out.lt
      have M3 : Mod (fun j => j = o6 ∨ j = o6 + 1) W (W2.alloc (.cells #[.int .i64 q.x, .int .i64 q.y, .int .i64 q.z] 26)) := Mod.of_below hB3 (fun k h1 h2 => by omega)
      have Hcl := Lib.hid (body_close HM.out M3 H6.out H7.out Hbs.out)
      rw [← hnew] at h63 h73
      have H63 := Lib.hid h63
      have H73 := Lib.hid h73
      clear hnew h63 h73 M3 hB3 B2
      gi_wp2
      obtain ⟨x1, x2, x3⟩ := Hcl.out
      exact ⟨x1, x2, H63.out, H73.out, x3⟩
    | true =>
      have hlf := len_facts (p := x) (q := q) (Prod.ext Hq.out.symm His.out.symm)
      have hqz : ¬ Zero q := by
        rintro ⟨z1, z2, z3⟩
        have := hlf.2
        unfold nearB at this
        rw [z1, z2, z3] at this
        revert this
        decide
      obtain ⟨W3, hW3⟩ : ∃ W3, W2.alloc (.cells #[.int .i64 q.x, .int .i64 q.y, .int .i64 q.z] 26) = W3 := ⟨_, rfl⟩
      have hq9 : Blk W3 W2.heap.size 26 q.cells := by rw [← hW3]; exact Blk.new W2 26 q.cells
      rw [hW3] at hB3
      have hVW := HM.out.size
      have rdA : Rd W3 pva a.P.length 3 (ptCells a.P) := by
        refine (HPV.out.keep (w' := W3) (fun hn k e => ?_))
        have h1 := obs_lt HPa.out (obs_mem hn e)
        rw [hB3.block k (by omega), HM.out.block k (by omega) (by omega)]
      have rdB : Rd W3 pvb b.P.length 3 (ptCells b.P) := by
        refine (HQV.out.keep (w' := W3) (fun hn k e => ?_))
        have h1 := obs_lt HPb.out (obs_mem hn e)
        rw [hB3.block k (by omega), HM.out.block k (by omega) (by omega)]
      have u0 := (Hv0.out.mod HM.out (by omega)).below hB3 (Hv0.out.mod HM.out (by omega)).lt
      have u1 := (Hv1.out.mod HM.out (by omega)).below hB3 (Hv1.out.mod HM.out (by omega)).lt
      have m0 : _ = some pva := u0.cell 0
      have m1 : _ = some ava := u0.cell 1
      have m2 : _ = some eva := u0.cell 2
      have m3 : _ = some (Value.int .i64 a.r) := u0.cell 3
      have n0 : _ = some pvb := u1.cell 0
      have n1 : _ = some avb := u1.cell 1
      have n2 : _ = some evb := u1.cell 2
      have n3 : _ = some (Value.int .i64 b.r) := u1.cell 3
      have s0 : _ = some (Value.int .i64 q.x) := hq9.cell 0
      have s1 : _ = some (Value.int .i64 q.y) := hq9.cell 1
      have s2 : _ = some (Value.int .i64 q.z) := hq9.cell 2
      have hc2 : CallsIn (Fence.wide.inRound li) 0 Try.prog 31 _ _ _ := (callsIn_wide (n := 0)).2 (gaps31_any pva ava eva pvb avb evb a b q W3 rdA rdB FA FB hlf.1 hqz)
      obtain ⟨T, hT⟩ : ∃ T, T = thereP a b q := ⟨_, rfl⟩
      obtain ⟨K, hK⟩ : ∃ K, K = backP a b q := ⟨_, rfl⟩
      rw [← hT, ← hK] at hc2
      have HT := Lib.hid hT
      have HK := Lib.hid hK
      have Hq9 := Lib.hid hq9
      have Hlf := Lib.hid hlf
      have HB3 := Lib.hid hB3
      obtain ⟨t9, ht9⟩ : ∃ t9, t9 = W2.heap.size := ⟨_, rfl⟩
      have Ht9 := Lib.hid (show W.heap.size ≤ t9 by rw [ht9]; exact B2.size)
      rw [← ht9] at Hq9
      have Ht9e := Lib.hid ht9
      clear hT hK hq9 hlf hqz rdA rdB u0 u1 hVW hB3 ht9
      gi_wp2_with fail
      refine ⟨trivial, hc2.mono ?_⟩
      rintro e W4 ⟨rfl, B4⟩
      rw [← Ht9e.out]
      clear m0 m1 m2 m3 n0 n1 n2 n3 s0 s1 s2 hc2 hW3
      have hB4 := HB3.out.trans (B4.mono HB3.out.size)
      have h64 := H6.out.below hB4 H6.out.lt
      have h74 := H7.out.below hB4 H7.out.lt
      have h94 := Hq9.out.below B4 Hq9.out.lt
      have M4 : Mod (fun j => j = o6 ∨ j = o6 + 1) W W4 := Mod.of_below hB4 (fun k h1 h2 => by omega)
      have e60 : _ = some (Value.int .i64 st.ax.x) := h64.cell 0
      have e61 : _ = some (Value.int .i64 st.ax.y) := h64.cell 1
      have e62 : _ = some (Value.int .i64 st.ax.z) := h64.cell 2
      have e63 : _ = some (Value.int .i64 st.gap) := h64.cell 3
      have e70 : _ = some (Value.bool st.first) := h74.cell 0
      have f60 := h64.frozen 0
      have f61 := h64.frozen 1
      have f62 := h64.frozen 2
      have f63 := h64.frozen 3
      have f70 := h74.frozen 0
      have s0 : _ = some (Value.int .i64 q.x) := h94.cell 0
      have s1 : _ = some (Value.int .i64 q.y) := h94.cell 1
      have s2 : _ = some (Value.int .i64 q.z) := h94.cell 2
      have hw9W : W.heap.size ≤ t9 := Ht9.out
      have l6 := H6.out.lt
      have l7 := H7.out.lt
      have n96 : t9 ≠ o6 := by omega
      have n97 : t9 ≠ o6 + 1 := by omega
      have n67 : o6 ≠ o6 + 1 := by omega
      have H64 := Lib.hid h64
      have H74 := Lib.hid h74
      have H94 := Lib.hid h94
      have HM4 := Lib.hid M4
      clear h64 h74 h94 M4 hB4 B4
      cases hf : st.first with
      | true =>
        have H1 : Hid (foldA a b (pre ++ [x]) = if ((T : Int) < backP a b q) then (⟨subP ⟨0, 0, 0⟩ q, backP a b q, false⟩ : ApSt) else ⟨q, T, false⟩) := Lib.hid (by
          rw [Hstep.out]
          unfold stepA
          rw [← His.out, ← Hq.out]
          try rw [HT.out]
          simp [hf])
        rw [hf] at e70
        clear hf
        have H65 := Lib.hid ((((((H64.out.set 0 (.int .i64 q.x)).set 1 (.int .i64 q.y)).set 2 (.int .i64 q.z)).set 3 (.int .i64 T)).setCell_ne (p := ⟨o6 + 1, 0, none⟩) n67 (.bool false)))
        have H75 := Lib.hid (((((H74.out.setCell_ne (p := ⟨o6, 0, none⟩) (Ne.symm n67) (.int .i64 q.x)).setCell_ne (p := ⟨o6, 1, none⟩) (Ne.symm n67) (.int .i64 q.y)).setCell_ne (p := ⟨o6, 2, none⟩) (Ne.symm n67) (.int .i64 q.z)).setCell_ne (p := ⟨o6, 3, none⟩) (Ne.symm n67) (.int .i64 T)).set 0 (.bool false))
        have H95 := Lib.hid (((((H94.out.setCell_ne (p := ⟨o6, 0, none⟩) n96 (.int .i64 q.x)).setCell_ne (p := ⟨o6, 1, none⟩) n96 (.int .i64 q.y)).setCell_ne (p := ⟨o6, 2, none⟩) n96 (.int .i64 q.z)).setCell_ne (p := ⟨o6, 3, none⟩) n96 (.int .i64 T)).setCell_ne (p := ⟨o6 + 1, 0, none⟩) n97 (.bool false))
        have HM5 := Lib.hid (((((HM4.out.setCell (p := ⟨o6, 0, none⟩) (fun _ => .inl rfl) (.int .i64 q.x)).setCell (p := ⟨o6, 1, none⟩) (fun _ => .inl rfl) (.int .i64 q.y)).setCell (p := ⟨o6, 2, none⟩) (fun _ => .inl rfl) (.int .i64 q.z)).setCell (p := ⟨o6, 3, none⟩) (fun _ => .inl rfl) (.int .i64 T)).setCell (p := ⟨o6 + 1, 0, none⟩) (fun _ => .inr rfl) (.bool false))
        gi_upto_region 13 with (fail)
        obtain ⟨W5, hW5⟩ : ∃ W5, (((((W4.setCell ⟨o6, 0, none⟩ (.int .i64 q.x)).setCell ⟨o6, 1, none⟩ (.int .i64 q.y)).setCell ⟨o6, 2, none⟩ (.int .i64 q.z)).setCell ⟨o6, 3, none⟩ (.int .i64 T)).setCell ⟨o6 + 1, 0, none⟩ (.bool false)) = W5 := ⟨_, rfl⟩
        rw [hW5] at H65 H75 H95 HM5 ⊢
        clear hW5 e60 e61 e62 e63 e70 f60 f61 f62 f63 f70 s0 s1 s2
        have e65 : _ = some (Value.int .i64 q.x) := H65.out.cell 0
        have e66 : _ = some (Value.int .i64 q.y) := H65.out.cell 1
        have e67 : _ = some (Value.int .i64 q.z) := H65.out.cell 2
        have e68 : _ = some (Value.int .i64 T) := H65.out.cell 3
        have f65 := H65.out.frozen 0
        have f66 := H65.out.frozen 1
        have f67 := H65.out.frozen 2
        have f68 := H65.out.frozen 3
        have s0 : _ = some (Value.int .i64 q.x) := H95.out.cell 0
        have s1 : _ = some (Value.int .i64 q.y) := H95.out.cell 1
        have s2 : _ = some (Value.int .i64 q.z) := H95.out.cell 2
        by_cases hk : T < K
        · have hnew : foldA a b (pre ++ [x]) = ⟨subP ⟨0, 0, 0⟩ q, K, false⟩ := by rw [H1.out, if_pos (by rw [← HK.out]; exact hk), ← HK.out]
          obtain ⟨nq, hnq⟩ : ∃ nq, nq = subP ⟨0, 0, 0⟩ q := ⟨_, rfl⟩
          have hc3 : CallsIn (Fence.wide.inRound li) 0 Try.prog 32 _ _ _ := (callsIn_wide (n := 0)).2 (minus32_any ⟨0, 0, 0⟩ q W5 ⟨by decide, by decide, by decide⟩ (near_mono Hlf.out.1 (by decide)))
          rw [← hnq] at hc3 hnew
          have Hnew := Lib.hid hnew
          clear hnq hnew
          gi_wp2_with fail
          refine ⟨trivial, hc3.mono ?_⟩
          rintro e W6 ⟨rfl, B6⟩
          clear e65 e66 e67 e68 f65 f66 f67 f68 s0 s1 s2 hc3
          have h66 := H65.out.below B6 H65.out.lt
          have h76 := H75.out.below B6 H75.out.lt
          have e65 : _ = some (Value.int .i64 q.x) := h66.cell 0
          have e66 : _ = some (Value.int .i64 q.y) := h66.cell 1
          have e67 : _ = some (Value.int .i64 q.z) := h66.cell 2
          have e68 : _ = some (Value.int .i64 T) := h66.cell 3
          have f65 := h66.frozen 0
          have f66 := h66.frozen 1
          have f67 := h66.frozen 2
          have f68 := h66.frozen 3
          have M6 : Mod (fun j => j = o6 ∨ j = o6 + 1) W W6 := HM5.out.trans (Mod.of_below B6 (fun k h1 h2 => by omega))
          have M7 := (((M6.setCell (p := ⟨o6, 0, none⟩) (fun _ => .inl rfl) (.int .i64 nq.x)).setCell (p := ⟨o6, 1, none⟩) (fun _ => .inl rfl) (.int .i64 nq.y)).setCell (p := ⟨o6, 2, none⟩) (fun _ => .inl rfl) (.int .i64 nq.z)).setCell (p := ⟨o6, 3, none⟩) (fun _ => .inl rfl) (.int .i64 K)
          have H67 := Lib.hid ((((h66.set 0 (.int .i64 nq.x)).set 1 (.int .i64 nq.y)).set 2 (.int .i64 nq.z)).set 3 (.int .i64 K))
          have H77 := Lib.hid ((((h76.setCell_ne (p := ⟨o6, 0, none⟩) (Ne.symm n67) (.int .i64 nq.x)).setCell_ne (p := ⟨o6, 1, none⟩) (Ne.symm n67) (.int .i64 nq.y)).setCell_ne (p := ⟨o6, 2, none⟩) (Ne.symm n67) (.int .i64 nq.z)).setCell_ne (p := ⟨o6, 3, none⟩) (Ne.symm n67) (.int .i64 K))
          have Hcl := Lib.hid (body_close HM.out M7 H6.out H7.out Hbs.out)
          clear h66 h76 M6 M7 B6
          gi_wp2
          obtain ⟨x1, x2, x3⟩ := Hcl.out
          exact ⟨x1, x2, by rw [Hnew.out]; exact H67.out, by rw [Hnew.out]; exact H77.out, x3⟩
        · have hnew : foldA a b (pre ++ [x]) = ⟨q, T, false⟩ := by rw [H1.out, if_neg (by rw [← HK.out]; exact hk)]
          have Hnew := Lib.hid hnew
          have Hcl := Lib.hid (body_close HM.out HM5.out H6.out H7.out Hbs.out)
          clear hnew
          gi_wp2
          obtain ⟨x1, x2, x3⟩ := Hcl.out
          exact ⟨x1, x2, by rw [Hnew.out]; exact H65.out, by rw [Hnew.out]; exact H75.out, x3⟩
      | false =>
        by_cases hg : st.gap < T
        · have hg2 := hg
          rw [HT.out] at hg2
          have H1 : Hid (foldA a b (pre ++ [x]) = if ((T : Int) < backP a b q) then (⟨subP ⟨0, 0, 0⟩ q, backP a b q, false⟩ : ApSt) else ⟨q, T, false⟩) := Lib.hid (by
            rw [Hstep.out]
            unfold stepA
            rw [← His.out, ← Hq.out]
            try rw [HT.out]
            simp [hf, hg2])
          rw [hf] at e70
          clear hf hg2
          have H65 := Lib.hid ((((((H64.out.set 0 (.int .i64 q.x)).set 1 (.int .i64 q.y)).set 2 (.int .i64 q.z)).set 3 (.int .i64 T)).setCell_ne (p := ⟨o6 + 1, 0, none⟩) n67 (.bool false)))
          have H75 := Lib.hid (((((H74.out.setCell_ne (p := ⟨o6, 0, none⟩) (Ne.symm n67) (.int .i64 q.x)).setCell_ne (p := ⟨o6, 1, none⟩) (Ne.symm n67) (.int .i64 q.y)).setCell_ne (p := ⟨o6, 2, none⟩) (Ne.symm n67) (.int .i64 q.z)).setCell_ne (p := ⟨o6, 3, none⟩) (Ne.symm n67) (.int .i64 T)).set 0 (.bool false))
          have H95 := Lib.hid (((((H94.out.setCell_ne (p := ⟨o6, 0, none⟩) n96 (.int .i64 q.x)).setCell_ne (p := ⟨o6, 1, none⟩) n96 (.int .i64 q.y)).setCell_ne (p := ⟨o6, 2, none⟩) n96 (.int .i64 q.z)).setCell_ne (p := ⟨o6, 3, none⟩) n96 (.int .i64 T)).setCell_ne (p := ⟨o6 + 1, 0, none⟩) n97 (.bool false))
          have HM5 := Lib.hid (((((HM4.out.setCell (p := ⟨o6, 0, none⟩) (fun _ => .inl rfl) (.int .i64 q.x)).setCell (p := ⟨o6, 1, none⟩) (fun _ => .inl rfl) (.int .i64 q.y)).setCell (p := ⟨o6, 2, none⟩) (fun _ => .inl rfl) (.int .i64 q.z)).setCell (p := ⟨o6, 3, none⟩) (fun _ => .inl rfl) (.int .i64 T)).setCell (p := ⟨o6 + 1, 0, none⟩) (fun _ => .inr rfl) (.bool false))
          gi_upto_region 13 with (fail)
          obtain ⟨W5, hW5⟩ : ∃ W5, (((((W4.setCell ⟨o6, 0, none⟩ (.int .i64 q.x)).setCell ⟨o6, 1, none⟩ (.int .i64 q.y)).setCell ⟨o6, 2, none⟩ (.int .i64 q.z)).setCell ⟨o6, 3, none⟩ (.int .i64 T)).setCell ⟨o6 + 1, 0, none⟩ (.bool false)) = W5 := ⟨_, rfl⟩
          rw [hW5] at H65 H75 H95 HM5 ⊢
          clear hW5 e60 e61 e62 e63 e70 f60 f61 f62 f63 f70 s0 s1 s2
          have e65 : _ = some (Value.int .i64 q.x) := H65.out.cell 0
          have e66 : _ = some (Value.int .i64 q.y) := H65.out.cell 1
          have e67 : _ = some (Value.int .i64 q.z) := H65.out.cell 2
          have e68 : _ = some (Value.int .i64 T) := H65.out.cell 3
          have f65 := H65.out.frozen 0
          have f66 := H65.out.frozen 1
          have f67 := H65.out.frozen 2
          have f68 := H65.out.frozen 3
          have s0 : _ = some (Value.int .i64 q.x) := H95.out.cell 0
          have s1 : _ = some (Value.int .i64 q.y) := H95.out.cell 1
          have s2 : _ = some (Value.int .i64 q.z) := H95.out.cell 2
          by_cases hk : T < K
          · have hnew : foldA a b (pre ++ [x]) = ⟨subP ⟨0, 0, 0⟩ q, K, false⟩ := by rw [H1.out, if_pos (by rw [← HK.out]; exact hk), ← HK.out]
            obtain ⟨nq, hnq⟩ : ∃ nq, nq = subP ⟨0, 0, 0⟩ q := ⟨_, rfl⟩
            have hc3 : CallsIn (Fence.wide.inRound li) 0 Try.prog 32 _ _ _ := (callsIn_wide (n := 0)).2 (minus32_any ⟨0, 0, 0⟩ q W5 ⟨by decide, by decide, by decide⟩ (near_mono Hlf.out.1 (by decide)))
            rw [← hnq] at hc3 hnew
            have Hnew := Lib.hid hnew
            clear hnq hnew
            gi_wp2_with fail
            refine ⟨trivial, hc3.mono ?_⟩
            rintro e W6 ⟨rfl, B6⟩
            clear e65 e66 e67 e68 f65 f66 f67 f68 s0 s1 s2 hc3
            have h66 := H65.out.below B6 H65.out.lt
            have h76 := H75.out.below B6 H75.out.lt
            have e65 : _ = some (Value.int .i64 q.x) := h66.cell 0
            have e66 : _ = some (Value.int .i64 q.y) := h66.cell 1
            have e67 : _ = some (Value.int .i64 q.z) := h66.cell 2
            have e68 : _ = some (Value.int .i64 T) := h66.cell 3
            have f65 := h66.frozen 0
            have f66 := h66.frozen 1
            have f67 := h66.frozen 2
            have f68 := h66.frozen 3
            have M6 : Mod (fun j => j = o6 ∨ j = o6 + 1) W W6 := HM5.out.trans (Mod.of_below B6 (fun k h1 h2 => by omega))
            have M7 := (((M6.setCell (p := ⟨o6, 0, none⟩) (fun _ => .inl rfl) (.int .i64 nq.x)).setCell (p := ⟨o6, 1, none⟩) (fun _ => .inl rfl) (.int .i64 nq.y)).setCell (p := ⟨o6, 2, none⟩) (fun _ => .inl rfl) (.int .i64 nq.z)).setCell (p := ⟨o6, 3, none⟩) (fun _ => .inl rfl) (.int .i64 K)
            have H67 := Lib.hid ((((h66.set 0 (.int .i64 nq.x)).set 1 (.int .i64 nq.y)).set 2 (.int .i64 nq.z)).set 3 (.int .i64 K))
            have H77 := Lib.hid ((((h76.setCell_ne (p := ⟨o6, 0, none⟩) (Ne.symm n67) (.int .i64 nq.x)).setCell_ne (p := ⟨o6, 1, none⟩) (Ne.symm n67) (.int .i64 nq.y)).setCell_ne (p := ⟨o6, 2, none⟩) (Ne.symm n67) (.int .i64 nq.z)).setCell_ne (p := ⟨o6, 3, none⟩) (Ne.symm n67) (.int .i64 K))
            have Hcl := Lib.hid (body_close HM.out M7 H6.out H7.out Hbs.out)
            clear h66 h76 M6 M7 B6
            gi_wp2
            obtain ⟨x1, x2, x3⟩ := Hcl.out
            exact ⟨x1, x2, by rw [Hnew.out]; exact H67.out, by rw [Hnew.out]; exact H77.out, x3⟩
          · have hnew : foldA a b (pre ++ [x]) = ⟨q, T, false⟩ := by rw [H1.out, if_neg (by rw [← HK.out]; exact hk)]
            have Hnew := Lib.hid hnew
            have Hcl := Lib.hid (body_close HM.out HM5.out H6.out H7.out Hbs.out)
            clear hnew
            gi_wp2
            obtain ⟨x1, x2, x3⟩ := Hcl.out
            exact ⟨x1, x2, by rw [Hnew.out]; exact H65.out, by rw [Hnew.out]; exact H75.out, x3⟩
        · have hg2 := hg
          rw [HT.out] at hg2
          have H1 : Hid (foldA a b (pre ++ [x]) = if ((st.gap : Int) < backP a b q) then (⟨subP ⟨0, 0, 0⟩ q, backP a b q, false⟩ : ApSt) else ⟨st.ax, st.gap, false⟩) := Lib.hid (by
            rw [Hstep.out]
            unfold stepA
            rw [← His.out, ← Hq.out]
            try rw [HT.out]
            simp [hf, hg2])
          rw [hf] at e70
          clear hf hg2
          have H65 := Lib.hid (H64.out.setCell_ne (p := ⟨o6 + 1, 0, none⟩) n67 (.bool false))
          have H75 := Lib.hid (H74.out.set 0 (.bool false))
          have H95 := Lib.hid (H94.out.setCell_ne (p := ⟨o6 + 1, 0, none⟩) n97 (.bool false))
          have HM5 := Lib.hid (HM4.out.setCell (p := ⟨o6 + 1, 0, none⟩) (fun _ => .inr rfl) (.bool false))
          gi_upto_region 13 with (fail)
          obtain ⟨W5, hW5⟩ : ∃ W5, W4.setCell ⟨o6 + 1, 0, none⟩ (.bool false) = W5 := ⟨_, rfl⟩
          rw [hW5] at H65 H75 H95 HM5 ⊢
          clear hW5 e60 e61 e62 e63 e70 f60 f61 f62 f63 f70 s0 s1 s2
          have e65 : _ = some (Value.int .i64 st.ax.x) := H65.out.cell 0
          have e66 : _ = some (Value.int .i64 st.ax.y) := H65.out.cell 1
          have e67 : _ = some (Value.int .i64 st.ax.z) := H65.out.cell 2
          have e68 : _ = some (Value.int .i64 st.gap) := H65.out.cell 3
          have f65 := H65.out.frozen 0
          have f66 := H65.out.frozen 1
          have f67 := H65.out.frozen 2
          have f68 := H65.out.frozen 3
          have s0 : _ = some (Value.int .i64 q.x) := H95.out.cell 0
          have s1 : _ = some (Value.int .i64 q.y) := H95.out.cell 1
          have s2 : _ = some (Value.int .i64 q.z) := H95.out.cell 2
          by_cases hk : st.gap < K
          · have hnew : foldA a b (pre ++ [x]) = ⟨subP ⟨0, 0, 0⟩ q, K, false⟩ := by rw [H1.out, if_pos (by rw [← HK.out]; exact hk), ← HK.out]
            obtain ⟨nq, hnq⟩ : ∃ nq, nq = subP ⟨0, 0, 0⟩ q := ⟨_, rfl⟩
            have hc3 : CallsIn (Fence.wide.inRound li) 0 Try.prog 32 _ _ _ := (callsIn_wide (n := 0)).2 (minus32_any ⟨0, 0, 0⟩ q W5 ⟨by decide, by decide, by decide⟩ (near_mono Hlf.out.1 (by decide)))
            rw [← hnq] at hc3 hnew
            have Hnew := Lib.hid hnew
            clear hnq hnew
            gi_wp2_with fail
            refine ⟨trivial, hc3.mono ?_⟩
            rintro e W6 ⟨rfl, B6⟩
            clear e65 e66 e67 e68 f65 f66 f67 f68 s0 s1 s2 hc3
            have h66 := H65.out.below B6 H65.out.lt
            have h76 := H75.out.below B6 H75.out.lt
            have e65 : _ = some (Value.int .i64 st.ax.x) := h66.cell 0
            have e66 : _ = some (Value.int .i64 st.ax.y) := h66.cell 1
            have e67 : _ = some (Value.int .i64 st.ax.z) := h66.cell 2
            have e68 : _ = some (Value.int .i64 st.gap) := h66.cell 3
            have f65 := h66.frozen 0
            have f66 := h66.frozen 1
            have f67 := h66.frozen 2
            have f68 := h66.frozen 3
            have M6 : Mod (fun j => j = o6 ∨ j = o6 + 1) W W6 := HM5.out.trans (Mod.of_below B6 (fun k h1 h2 => by omega))
            have M7 := (((M6.setCell (p := ⟨o6, 0, none⟩) (fun _ => .inl rfl) (.int .i64 nq.x)).setCell (p := ⟨o6, 1, none⟩) (fun _ => .inl rfl) (.int .i64 nq.y)).setCell (p := ⟨o6, 2, none⟩) (fun _ => .inl rfl) (.int .i64 nq.z)).setCell (p := ⟨o6, 3, none⟩) (fun _ => .inl rfl) (.int .i64 K)
            have H67 := Lib.hid ((((h66.set 0 (.int .i64 nq.x)).set 1 (.int .i64 nq.y)).set 2 (.int .i64 nq.z)).set 3 (.int .i64 K))
            have H77 := Lib.hid ((((h76.setCell_ne (p := ⟨o6, 0, none⟩) (Ne.symm n67) (.int .i64 nq.x)).setCell_ne (p := ⟨o6, 1, none⟩) (Ne.symm n67) (.int .i64 nq.y)).setCell_ne (p := ⟨o6, 2, none⟩) (Ne.symm n67) (.int .i64 nq.z)).setCell_ne (p := ⟨o6, 3, none⟩) (Ne.symm n67) (.int .i64 K))
            have Hcl := Lib.hid (body_close HM.out M7 H6.out H7.out Hbs.out)
            clear h66 h76 M6 M7 B6
            gi_wp2
            obtain ⟨x1, x2, x3⟩ := Hcl.out
            exact ⟨x1, x2, by rw [Hnew.out]; exact H67.out, by rw [Hnew.out]; exact H77.out, x3⟩
          · have hnew : foldA a b (pre ++ [x]) = ⟨st.ax, st.gap, false⟩ := by rw [H1.out, if_neg (by rw [← HK.out]; exact hk)]
            have Hnew := Lib.hid hnew
            have Hcl := Lib.hid (body_close HM.out HM5.out H6.out H7.out Hbs.out)
            clear hnew
            gi_wp2
            obtain ⟨x1, x2, x3⟩ := Hcl.out
            exact ⟨x1, x2, by rw [Hnew.out]; exact H65.out, by rw [Hnew.out]; exact H75.out, x3⟩
theorem apart8_any (pva ava eva pvb avb evb : Value) (a b : Cor) (w : World) (pa : Rd w pva a.P.length 3 (ptCells a.P)) (aa : Rd w ava a.A.length 3 (ptCells a.A)) (ea : Rd w eva a.E.length 3 (ptCells a.E)) (pb : Rd w pvb b.P.length 3 (ptCells b.P)) (ab : Rd w avb b.A.length 3 (ptCells b.A)) (eb : Rd w evb b.E.length 3 (ptCells b.E)) :
    Calls Try.prog 8 #[corV pva ava eva a.r, corV pvb avb evb b.r] w fun e w' => (∃ p g, e = .returned (.tuple #[apV p g, .bool (mayB a && mayB b)])) ∧ Below w.heap.size w w' := by
  cases hm : (mayB a && mayB b) with
  | false => exact apart8_no pva ava eva pvb avb evb a b w pa aa ea pb ab eb hm
  | true =>
    have h := Bool.and_eq_true_iff.1 hm
    refine (apart8_yes pva ava eva pvb avb evb a b w pa aa ea pb ab eb h.1 h.2).mono ?_
    rintro e w' ⟨rfl, hB⟩
    exact ⟨⟨_, _, rfl⟩, hB⟩
end Go.Proofs.Ytpbpdgknjbjlcaa
