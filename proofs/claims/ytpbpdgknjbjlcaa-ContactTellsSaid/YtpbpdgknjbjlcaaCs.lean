/- Contacts: the reference's four, walked. -/
import Derived.Test.YtpbpdgknjbjlcaaCr
namespace Go.Proofs.Ytpbpdgknjbjlcaa
open Go.RowKit
theorem info4 : (Try.prog.info? 4).map (fun i => (i.zero, i.size, i.bytes)) = some (some (.bool false), 1, 1) := by kernel_rfl
theorem made_bools (n : Nat) : (madeCells (Value.cells (.bool false)) (n * 1)).toList = bools (List.replicate n false) := by
  rw [Nat.mul_one]; simp [Value.cells, toList_madeCells_one, bools]
theorem ch_cell {w : World} {bc n : Nat} {C : List Nat} (h : Blk w bc 4 (bools (chB n C))) {k : Nat} (hk : k < n) : w.cell? ⟨bc, k, none⟩ = some (.bool (C.contains k)) := by
  rw [h.cell, bools_get (by rw [chB_len]; exact hk), chB_get hk]
set_option maxRecDepth 100000 in
theorem four27_few (sv : Value) (n : Nat) (l : List Sp) (w : World) (hv : Rd w sv n 5 (spCells l)) (hn : n ≤ 4) :
    Calls Try.prog 27 #[sv] w fun e w' => e = .returned sv ∧ w' = w := by
  obtain ⟨a, c, rfl, c1, c2⟩ := hv.shape
  have hnI : (n : Int) ≤ 4 := by omega
  clear hv
  go_enter Try.func27, Try.ntmps27
  go_wp2
  go_ret
  exact ⟨rfl, rfl⟩
set_option maxRecDepth 100000 in
set_option maxHeartbeats 1000000 in
theorem four27_many (sv : Value) (n : Nat) (l : List Sp) (w : World) (hl : l.length = n) (hv : Rd w sv n 5 (spCells l)) (hn : 4 < n) (hn1 : n ≤ 1000) (hnear : ∀ s ∈ l, Near 67108864 s.p) :
    Calls Try.prog 27 #[sv] w fun e w' => (∃ v C, e = .returned v ∧ Chain l n C ∧ C.length = 4 ∧ w'.ownsRow w.heap.size 40 5 v 4 (spCells ((sortN C).map (spAt l)))) ∧ Below w.heap.size w w' := by
  obtain ⟨a, c, rfl, c1, c2⟩ := hv.shape
  obtain ⟨b, off, rfl⟩ := hv.addr (by omega)
  have hnI : ¬ (n : Int) ≤ 4 := by omega
  have hn0 : (0 : Int) ≤ (n : Int) := by omega
  have Hl := Lib.hid hl
  have Hnear := Lib.hid hnear
  have HF : Hid (∀ W, Below w.heap.size w W → ∀ k, k < n → W.cell? ⟨b, off + k * 5, none⟩ = some (.int .i64 (spAt l k).p.x) ∧ W.cell? ⟨b, off + k * 5 + 1, none⟩ = some (.int .i64 (spAt l k).p.y) ∧ W.cell? ⟨b, off + k * 5 + 2, none⟩ = some (.int .i64 (spAt l k).p.z) ∧ W.cell? ⟨b, off + k * 5 + 3, none⟩ = some (.int .i64 (spAt l k).d) ∧ W.cell? ⟨b, off + k * 5 + 4, none⟩ = some (.int .i64 (spAt l k).id)) := Lib.hid fun W hW k hk => (hv.new hW).sp hk (spAt_get (by rw [hl]; exact hk))
  obtain ⟨i0, hi, hz0, hz1, hz2⟩ := info_parts info40
  obtain ⟨i4, hi4, hw0, hw1, hw2⟩ := info_parts info4
  clear hl hnear hv
  go_enter Try.func27, Try.ntmps27
  go_upto_block 5 with (fail)
  go_loopg [3, 4] n (fun g a i wx => ∃ k m : Nat, g = n - k ∧ k ≤ n ∧ i = .int .i64 (k : Int) ∧ a = .int .i64 (m : Int) ∧ m < n ∧ Hid ((k = 0 ∧ m = 0) ∨ IsBest (fun i => (spAt l i).d) k m) ∧ Below w.heap.size w wx)
  case atStart => exact ⟨0, 0, rfl, Nat.zero_le _, rfl, rfl, by omega, Lib.hid (.inl ⟨rfl, rfl⟩), Below.refl _ _⟩
  case round =>
    obtain ⟨k, m, hg, hk, rfl, rfl, hm, HI, hB⟩ := hrel
    have Hg := Lib.hid hg
    clear hg
    by_cases hkn : k < n
    · have hkI : (k : Int) < (n : Int) := by omega
      have hmI : (m : Int) < (n : Int) := by omega
      have hs := hB.size
      have HB := Lib.hid hB
      clear hB
      go_upto_region 7 with (fail)
      have A0 : ∀ u : After wr, u.W.cell? ⟨b, off + k * 5 + 3, none⟩ = some (.int .i64 (spAt l k).d) := fun u => (HF.out _ (HB.out.trans (u.h.mono hs)) k hkn).2.2.2.1
      have A1 : ∀ u : After wr, u.W.cell? ⟨b, off + m * 5 + 3, none⟩ = some (.int .i64 (spAt l m).d) := fun u => (HF.out _ (HB.out.trans (u.h.mono hs)) m hm).2.2.2.1
      refine wp_region_after (by kernel_rfl) (by kernel_rfl) ?_
      repeat (go_big_quiet_step (fail))
      refine wpQuiet_nil ?_
      intro w9 hw9
      obtain ⟨u9, rfl⟩ := hw9
      clear A0 A1
      have HB9 := Lib.hid (HB.out.trans (u9.h.mono hs))
      generalize u9.W = w9 at *
      by_cases hgt : (spAt l m).d < (spAt l k).d
      · have HI2 : Hid ((k + 1 = 0 ∧ k = 0) ∨ IsBest (fun i => (spAt l i).d) (k + 1) k) := Lib.hid (.inr (by
          rcases HI.out with ⟨rfl, rfl⟩ | h
          · omega
          · exact best_yes h hgt))
        generalize (spAt l m).d = dm at *
        generalize (spAt l k).d = dk at *
        go_wp2
        go_roundg (n - (k + 1))
        case rel => exact ⟨k + 1, k, rfl, by omega, by go_num, rfl, hkn, HI2, HB9.out⟩
        case measure => have := Hg.out; omega
      · have HI2 : Hid ((k + 1 = 0 ∧ m = 0) ∨ IsBest (fun i => (spAt l i).d) (k + 1) m) := Lib.hid (.inr (by
          rcases HI.out with ⟨rfl, rfl⟩ | h
          · exact best_zero _
          · exact best_no h hgt))
        generalize (spAt l m).d = dm at *
        generalize (spAt l k).d = dk at *
        go_wp2
        go_roundg (n - (k + 1))
        case rel => exact ⟨k + 1, m, rfl, by omega, by go_num, rfl, hm, HI2, HB9.out⟩
        case measure => have := Hg.out; omega
    · obtain rfl : k = n := by omega
      have HI2 : Hid (Chain l k [m]) := Lib.hid (by
        rcases HI.out with ⟨rfl, rfl⟩ | h
        · omega
        · exact Chain.one m h)
      obtain ⟨wb, hwb⟩ : ∃ wb : World, wb = wr := ⟨_, rfl⟩
      subst hwb
      have HB := Lib.hid hB
      have hs := hB.size
      have hmI : (m : Int) < (k : Int) := by omega
      clear hB HI Hg hn0
      go_upto_block 12 with (at_make; refine wpList_make_full _ rfl _ _ 75 rfl 0 4 i4 (.bool false) 1 Try.underlying75 hi4 hw0 hw1 .i64 .i64 _ _ k rfl rfl rfl rfl (by rw [hw2]; omega) (by unfold maxLen; omega) (Nat.zero_le _) ?_
                             intro w1 hown1 hg1
                             have hF := own_blk hown1
                             rw [made_bools, ← chB_nil] at hF
                             have hst : w1.cell? ⟨wb.heap.size, m, none⟩ = some (.bool false) := by rw [ch_cell hF hm]; rfl
                             have hfr := hF.frozen m)
      have hF2 := hF.set m (.bool true)
      rw [bools_set, chB_set, List.nil_append] at hF2
      have hB2 : Below w.heap.size w (w1.setCell ⟨wb.heap.size, m, none⟩ (.bool true)) := (HB.out.grown hg1 hs (by simp)).setCell (p := ⟨wb.heap.size, m, none⟩) hs _
      obtain ⟨w2, hw2'⟩ : ∃ w2, w1.setCell ⟨wb.heap.size, m, none⟩ (.bool true) = w2 := ⟨_, rfl⟩
      rw [hw2'] at hF2 hB2
      change Code.wp _ _ _ _ (w1.setCell ⟨wb.heap.size, m, none⟩ (.bool true))
      rw [hw2']
      clear hw2' hst hfr hF hown1 hg1 HB
      generalize hbc : wb.heap.size = bc at *
      clear hbc
      go_loopg [6, 7, 8, 9, 10, 11, 12] 3 (fun g t _ _ _ _ _ _ wx => ∃ C : List Nat, g + C.length = 4 ∧ t = .int .i64 (C.length : Int) ∧ Hid (Chain l k C) ∧ Blk wx bc 4 (bools (chB k C)) ∧ Below w.heap.size w wx)
      case atStart => exact ⟨[m], rfl, rfl, HI2, hF2, hB2⟩
      case round =>
        clear hF2 hB2 HI2
        obtain ⟨C, hg, rfl, HCh, hbc, hB⟩ := hrel
        have hs2 := hB.size
        by_cases h4 : C.length < 4
        · have h4I : (C.length : Int) < 4 := by omega
          have Hbc := Lib.hid hbc
          have HB := Lib.hid hB
          have Hg := Lib.hid hg
          clear hbc hB hg
          go_upto_block 17 with (fail)
          go_loopg [7, 8, 9, 10, 11, 12] k (fun g at' far i _ _ _ wx => ∃ (j : Nat) (a f : Int), g = k - j ∧ j ≤ k ∧ i = .int .i64 (j : Int) ∧ at' = .int .i64 a ∧ far = .int .i64 f ∧ Hid (Pick (farS l C) C j a f) ∧ Below wr.heap.size wr wx)
          case atStart => exact ⟨0, -1, -1, rfl, Nat.zero_le _, rfl, rfl, rfl, Lib.hid (pick_zero _ _), Below.refl _ _⟩
          case round => as_aux_lemma =>
            obtain ⟨j, a, f, hg3, hj, rfl, rfl, rfl, HP, hB3⟩ := hrel
            have Hg3 := Lib.hid hg3
            have hbc3 := Hbc.out.below hB3 Hbc.out.lt
            have hs3 := hB3.size
            clear hg3
            by_cases hjn : j < k
            · have hjI : (j : Int) < (k : Int) := by omega
              have cj := ch_cell hbc3 hjn
              have Hbc3 := Lib.hid hbc3
              have HB3 := Lib.hid hB3
              clear hbc3 hB3
              cases hcj : C.contains j with
              | true =>
                rw [hcj] at cj
                have HP2 : Hid (Pick (farS l C) C (j + 1) a f) := Lib.hid (pick_in HP.out (by rw [← List.contains_iff_mem]; exact hcj))
                clear hcj
                go_wp2
                go_roundg (k - (j + 1))
                case rel => exact ⟨j + 1, a, f, rfl, by omega, by go_num, rfl, rfl, HP2, HB3.out⟩
                case measure => have := Hg3.out; omega
              | false =>
                rw [hcj] at cj
                have HjC : Hid (j ∉ C) := Lib.hid (by intro h; rw [← List.contains_iff_mem, hcj] at h; exact absurd h (by decide))
                clear hcj
                obtain ⟨w3, hw3⟩ : ∃ w3 : World, w3 = wr := ⟨_, rfl⟩
                subst hw3
                go_upto_block 22 with (fail)
                clear cj
                have hlC : C.length ≤ k := by omega
                have HS : Hid (sumI (fun q => C.contains q) (fun q => dist2 (spAt l j).p (spAt l q).p) k = farS l C j) := Lib.hid (HCh.out.sum Hnear.out j hlC)
                have hS0 : ∀ q, 0 ≤ dist2 (spAt l j).p (spAt l q).p := fun q => (dist2_range (spAt_near Hnear.out j) (spAt_near Hnear.out q)).1
                have hfr := farS_range Hnear.out j C
                have HS0 := Lib.hid hS0
                have hfr1 : 0 ≤ farS l C j := hfr.1
                have hfr2 : farS l C j ≤ 216172782113783808 := by have := hfr.2; omega
                clear hfr hS0
                obtain ⟨sm, hsm⟩ : ∃ sm : Nat → Int, sm = sumI (fun q => C.contains q) (fun q => dist2 (spAt l j).p (spAt l q).p) := ⟨_, rfl⟩
                have Hsm := Lib.hid hsm
                have hsm0 : sm 0 = 0 := by rw [hsm]; rfl
                clear hsm
                go_loopg [10, 11, 12] k (fun g s kk _ wx => ∃ q : Nat, g = k - q ∧ q ≤ k ∧ kk = .int .i64 (q : Int) ∧ s = .int .i64 (sm q) ∧ Below w3.heap.size w3 wx)
                case atStart => exact ⟨0, rfl, Nat.zero_le _, rfl, by rw [hsm0], Below.refl _ _⟩
                case round => as_aux_lemma =>
                  clear hsm0
                  obtain ⟨q, hg4, hq, rfl, rfl, hB4⟩ := hrel
                  have Hg4 := Lib.hid hg4
                  have hbc4 := Hbc3.out.below hB4 Hbc3.out.lt
                  have hs4 := hB4.size
                  clear hg4
                  by_cases hqk : q < k
                  · have hqI : (q : Int) < (k : Int) := by omega
                    have cq := ch_cell hbc4 hqk
                    have HB4 := Lib.hid hB4
                    have hsuc : sm (q + 1) = sm q + (if C.contains q then dist2 (spAt l j).p (spAt l q).p else 0) := by rw [Hsm.out]; rfl
                    clear hbc4 hB4
                    cases hcq : C.contains q with
                    | false =>
                      rw [hcq] at cq hsuc
                      have Hsuc : Hid (sm (q + 1) = sm q) := Lib.hid (by rw [hsuc]; simp)
                      clear hcq hsuc
                      generalize sm q = sq at *
                      go_wp2
                      go_roundg (k - (q + 1))
                      case rel => exact ⟨q + 1, rfl, by omega, by go_num, by rw [Hsuc.out], HB4.out⟩
                      case measure => have := Hg4.out; omega
                    | true =>
                      rw [hcq] at cq hsuc
                      simp only [if_true] at hsuc
                      obtain ⟨s0, s1, hsn⟩ := dist2_range (spAt_near Hnear.out j) (spAt_near Hnear.out q)
                      have hm1 : sm (q + 1) ≤ 216172782113783808 := by
                        have h1 : sm (q + 1) ≤ sm k := by rw [Hsm.out]; exact sumI_mono HS0.out hqk
                        have h2 : sm k = farS l C j := by rw [Hsm.out]; exact HS.out
                        omega
                      have hm0 : 0 ≤ sm q := by rw [Hsm.out]; exact sumI_nonneg HS0.out q
                      have HP4 : Hid (∀ W, Below wr.heap.size wr W → (fun W => W.cell? ⟨b, off + j * 5, none⟩ = some (.int .i64 (spAt l j).p.x) ∧ W.cell? ⟨b, off + j * 5 + 1, none⟩ = some (.int .i64 (spAt l j).p.y) ∧ W.cell? ⟨b, off + j * 5 + 2, none⟩ = some (.int .i64 (spAt l j).p.z) ∧ W.cell? ⟨b, off + q * 5, none⟩ = some (.int .i64 (spAt l q).p.x) ∧ W.cell? ⟨b, off + q * 5 + 1, none⟩ = some (.int .i64 (spAt l q).p.y) ∧ W.cell? ⟨b, off + q * 5 + 2, none⟩ = some (.int .i64 (spAt l q).p.z)) W) := Lib.hid fun W hW => by
                        have hBW := HB.out.trans ((HB3.out.trans ((HB4.out.trans (hW.mono hs4)).mono hs3)).mono hs2)
                        obtain ⟨a0, a1, a2, -⟩ := HF.out W hBW j hjn
                        obtain ⟨b0, b1, b2, -⟩ := HF.out W hBW q hqk
                        exact ⟨a0, a1, a2, b0, b1, b2⟩
                      have HM : Hid (∀ W, Calls Try.prog 46 #[ptV (spAt l j).p, ptV (spAt l q).p] W fun e w' => e = .returned (ptV (subP (spAt l j).p (spAt l q).p)) ∧ Below W.heap.size W w') := Lib.hid fun W => minus46_any _ _ W (near_mono (spAt_near Hnear.out j) (by decide)) (near_mono (spAt_near Hnear.out q) (by decide))
                      have HD : Hid (∀ W, Calls Try.prog 26 #[ptV (subP (spAt l j).p (spAt l q).p), ptV (subP (spAt l j).p (spAt l q).p)] W fun e w' => e = .returned (.int .i64 (dist2 (spAt l j).p (spAt l q).p)) ∧ Below W.heap.size W w') := Lib.hid fun W => dot26_any _ _ W hsn hsn
                      have Hsuc := Lib.hid hsuc
                      have hbd : sm q + dist2 (spAt l j).p (spAt l q).p ≤ 216172782113783808 := by rw [← hsuc]; exact hm1
                      generalize subP (spAt l j).p (spAt l q).p = df at *
                      generalize dist2 (spAt l j).p (spAt l q).p = dd at *
                      generalize sm q = sq at *
                      generalize spAt l j = pj at *
                      generalize spAt l q = pq at *
                      clear hcq hsuc hsn hm1
                      go_upto_region 25 with (fail)
                      clear cq
                      go_cut [12] (fun v8 wx => ∃ b8 : Nat, v8 = .pointer (some ⟨b8, 0, none⟩) ∧ Blk wx b8 26 df.cells ∧ Below wr.heap.size wr wx)
                      case first =>
                        go_region_held3 (fun W => W.cell? ⟨b, off + j * 5, none⟩ = some (.int .i64 pj.p.x) ∧ W.cell? ⟨b, off + j * 5 + 1, none⟩ = some (.int .i64 pj.p.y) ∧ W.cell? ⟨b, off + j * 5 + 2, none⟩ = some (.int .i64 pj.p.z) ∧ W.cell? ⟨b, off + q * 5, none⟩ = some (.int .i64 pq.p.x) ∧ W.cell? ⟨b, off + q * 5 + 1, none⟩ = some (.int .i64 pq.p.y) ∧ W.cell? ⟨b, off + q * 5 + 2, none⟩ = some (.int .i64 pq.p.z))
                          (first
                            | exact HP4.out _ (Below.refl wr.heap.size wr).drew
                            | exact HP4.out _ ((Below.refl wr.heap.size wr).drew.trans hBm)
                            | exact HP4.out _ (((Below.refl wr.heap.size wr).drew.trans hBm).alloc hBm.size _)
                            | exact HP4.out _ ((Below.refl wr.heap.size wr).alloc (Nat.le_refl _) _).drew
                            | exact HP4.out _ (((Below.refl wr.heap.size wr).alloc (Nat.le_refl _) _).drew.trans (hBm.mono (by simp)))
                            | exact HP4.out _ ((((((Below.refl wr.heap.size wr).alloc (Nat.le_refl _) _).drew.trans (hBm.mono (by simp))).setCell (p := ⟨wr.heap.size, 0, none⟩) (Nat.le_refl _) _).setCell (p := ⟨wr.heap.size, 1, none⟩) (Nat.le_refl _) _).setCell (p := ⟨wr.heap.size, 2, none⟩) (Nat.le_refl _) _))
                          ((go_at_call 46; refine (HM.out _).mono ?_; rintro e wm ⟨rfl, hBm⟩
                            first
                              | (have hz := ((Blk.new wr 26 [.int .i64 0, .int .i64 0, .int .i64 0]).drew).below hBm (by simp)
                                 have z0 := hz.cell 0
                                 have z1 := hz.cell 1
                                 have z2 := hz.cell 2
                                 have y0 := hz.frozen 0
                                 have y1 := hz.frozen 1
                                 have y2 := hz.frozen 2
                                 simp only [List.getElem?_cons_zero, List.getElem?_cons_succ] at z0 z1 z2)
                              | skip))
                        all_goals (first | go_wp2 | skip)
                        all_goals go_meet
                        all_goals
                          first
                            | exact ⟨_, rfl, ((hz.set 0 _).set 1 _).set 2 _, (((((Below.refl wr.heap.size wr).alloc (Nat.le_refl _) _).drew.trans (hBm.mono (by simp))).setCell (p := ⟨wr.heap.size, 0, none⟩) (Nat.le_refl _) _).setCell (p := ⟨wr.heap.size, 1, none⟩) (Nat.le_refl _) _).setCell (p := ⟨wr.heap.size, 2, none⟩) (Nat.le_refl _) _⟩
                            | exact ⟨_, rfl, Blk.new wm 26 df.cells, ((Below.refl wr.heap.size wr).drew.trans hBm).alloc hBm.size _⟩
                      case rest =>
                        obtain ⟨b8, rfl, hb8, hB8⟩ := hcut
                        have HB8 := Lib.hid (HB4.out.trans (hB8.mono hs4))
                        have e0 : _ = some (Value.int .i64 df.x) := hb8.cell 0
                        have e1 : _ = some (Value.int .i64 df.y) := hb8.cell 1
                        have e2 : _ = some (Value.int .i64 df.z) := hb8.cell 2
                        clear hB8 hb8
                        go_wp2_with fail
                        refine (HD.out _).mono ?_
                        rintro e w5 ⟨rfl, hB5⟩
                        have HB5 := Lib.hid (HB8.out.trans (hB5.mono HB8.out.size))
                        clear hB5 e0 e1 e2
                        go_wp2
                        go_roundg (k - (q + 1))
                        case rel => exact ⟨q + 1, rfl, by omega, by go_num, by rw [Hsuc.out], HB5.out⟩
                        case measure => have := Hg4.out; omega
                  · obtain rfl : q = k := by omega
                    have hfin : sm q = farS l C j := by rw [Hsm.out]; exact HS.out
                    rw [hfin]
                    have HB4 := Lib.hid (HB3.out.trans (hB4.mono hs3))
                    clear hB4 hbc4
                    by_cases hgt : f < farS l C j
                    · have HP2 : Hid (Pick (farS l C) C (j + 1) (j : Int) (farS l C j)) := Lib.hid (pick_yes HP.out HjC.out hgt)
                      generalize farS l C j = V at *
                      go_wp2
                      go_roundg (q - (j + 1))
                      case rel => exact ⟨j + 1, j, V, rfl, by omega, by go_num, rfl, rfl, HP2, HB4.out⟩
                      case measure => have := Hg3.out; omega
                    · have HP2 : Hid (Pick (farS l C) C (j + 1) a f) := Lib.hid (pick_no HP.out hgt hfr1)
                      generalize farS l C j = V at *
                      go_wp2
                      go_roundg (q - (j + 1))
                      case rel => exact ⟨j + 1, a, f, rfl, by omega, by go_num, rfl, rfl, HP2, HB4.out⟩
                      case measure => have := Hg3.out; omega
            · obtain rfl : j = k := by omega
              obtain ⟨m2, rfl, hm2, hbest⟩ := pick_best Hnear.out HP.out (by omega)
              have HCh2 : Hid (Chain l j (C ++ [m2])) := Lib.hid (Chain.snoc C m2 HCh.out hbest)
              have hm2I : (m2 : Int) < (j : Int) := by omega
              have hm2I0 : (0 : Int) ≤ (m2 : Int) := by omega
              have hc2 := ch_cell hbc3 hm2
              have hf2 := hbc3.frozen m2
              have hb5 := hbc3.set m2 (.bool true)
              rw [bools_set, chB_set] at hb5
              have hB5 := (HB.out.trans (hB3.mono hs2)).setCell (p := ⟨bc, m2, none⟩) hs (.bool true)
              have Hb5 := Lib.hid hb5
              have HB5 := Lib.hid hB5
              clear hb5 hB5 hbc3 hB3 hbest
              go_wp2
              go_roundg (3 - C.length)
              case rel => exact ⟨C ++ [m2], by rw [List.length_append, List.length_singleton]; omega, by rw [List.length_append, List.length_singleton]; go_num, HCh2, Hb5.out, HB5.out⟩
              case measure => have := Hg.out; omega
        · have hC4 : C.length = 4 := by omega
          have HC4 := Lib.hid hC4
          have hord := HCh.out.order Hnear.out (by omega)
          have Hord := Lib.hid hord
          have h4I : ¬ (C.length : Int) < 4 := by omega
          have Hbc := Lib.hid hbc
          have HB := Lib.hid hB
          obtain ⟨w3, hw3⟩ : ∃ w3 : World, w3 = wr := ⟨_, rfl⟩
          subst hw3
          clear hbc hB hg hord hC4 h4
          go_upto_block 33 with (fail)
          go_loopg [13, 14] k (fun g v i wx => ∃ j : Nat, g = k - j ∧ j ≤ k ∧ i = .int .i64 (j : Int) ∧ wx.ownsRow w3.heap.size 40 5 v (((List.range j).filter (fun q => C.contains q)).map (spAt l)).length (spCells (((List.range j).filter (fun q => C.contains q)).map (spAt l))) ∧ Below w3.heap.size w3 wx)
          case atStart => exact ⟨0, rfl, Nat.zero_le _, rfl, World.ownsRow_nil _ _ _ _, Below.refl _ _⟩
          case round =>
            obtain ⟨j, hg, hj, rfl, hown, hB3⟩ := hrel
            have Hg := Lib.hid hg
            clear hg
            by_cases hjn : j < k
            · have hjI : (j : Int) < (k : Int) := by omega
              have cj := ch_cell (Hbc.out.below hB3 Hbc.out.lt) hjn
              obtain ⟨p0, p1, p2, p3, p4⟩ := HF.out wr (HB.out.trans (hB3.mono hs2)) j hjn
              have hsn : ((List.range (j + 1)).filter (fun q => C.contains q)).map (spAt l) = ((List.range j).filter (fun q => C.contains q)).map (spAt l) ++ (if C.contains j then [spAt l j] else []) := by
                rw [List.range_succ, List.filter_append, List.map_append]
                congr 1
                rw [List.filter_cons, List.filter_nil]
                cases C.contains j <;> rfl
              have hle : (((List.range j).filter (fun q => C.contains q)).map (spAt l)).length ≤ 1000 := by
                rw [List.length_map]
                exact Nat.le_trans (List.length_filter_le _ _) (by rw [List.length_range]; omega)
              have hs3 := hB3.size
              have HB3 := Lib.hid hB3
              clear hB3
              obtain ⟨R, hR⟩ : ∃ R, R = ((List.range j).filter (fun q => C.contains q)).map (spAt l) := ⟨_, rfl⟩
              rw [← hR] at hown hle hsn
              clear hR
              obtain ⟨T, hT⟩ : ∃ T, T = R.length := ⟨_, rfl⟩
              rw [← hT] at hown hle
              have HT := Lib.hid hT
              clear hT
              cases hcj : C.contains j with
              | false =>
                rw [hcj] at cj hsn
                have hown2 : wr.ownsRow w3.heap.size 40 5 u13 (((List.range (j + 1)).filter (fun q => C.contains q)).map (spAt l)).length (spCells (((List.range (j + 1)).filter (fun q => C.contains q)).map (spAt l))) := by
                  rw [hsn]
                  simp only [Bool.false_eq_true, if_false, List.append_nil, ← HT.out]
                  exact hown
                clear hcj hsn hown p0 p1 p2 p3 p4
                go_wp2
                go_roundg (k - (j + 1))
                case rel => exact ⟨j + 1, rfl, by omega, by go_num, hown2, HB3.out⟩
                case measure => have := Hg.out; omega
              | true =>
                rw [hcj] at cj hsn
                simp only [if_true] at hsn
                have Hsn := Lib.hid hsn
                clear hcj hsn
                generalize spAt l j = s at *
                go_wp2_with (at_builtin; refine wpList_append_own _ rfl _ _ 30 rfl w3.heap.size 40 i0 (.agg #[.int .i64 0, .int .i64 0, .int .i64 0, .int .i64 0, .int .i64 0]) 5 40 Try.underlying30 hi hz0 hz1 hz2 rfl (by decide) _ _ _ rfl (hown.alloc _) ⟨wr.heap.size, 0, none⟩ 1 1 s.cells rfl rfl (World.news_of_block (cs := s.cells.toArray) (t := 40) (fr := (0, 0)) (heap_alloc_new wr _)) (by simp [Sp.cells, Value.oneCell']) (by unfold maxLen; omega) (by omega) (by simp; omega) ?_; intro v' w7 hown' hgrow _)
                have hb7 : Below w3.heap.size w3 w7 := (HB3.out.alloc hs3 _).grown hgrow (by simp; omega) (fun r hr => ownBlock_ge hown hr)
                have hown2 : w7.ownsRow w3.heap.size 40 5 v' (((List.range (j + 1)).filter (fun q => C.contains q)).map (spAt l)).length (spCells (((List.range (j + 1)).filter (fun q => C.contains q)).map (spAt l))) := by
                  rw [Hsn.out, spCells_snoc, List.length_append, List.length_singleton, ← HT.out]
                  exact hown'
                clear hown' hgrow
                go_roundg (k - (j + 1))
                case rel => exact ⟨j + 1, rfl, by omega, by go_num, hown2, hb7⟩
                case measure => have := Hg.out; omega
            · obtain rfl : j = k := by omega
              rw [Hord.out, List.length_map, sortN_len, HC4.out] at hown
              have Hown := Lib.hid (own_base (base' := w.heap.size) hown hs2)
              have HBz := Lib.hid (HB.out.trans (hB3.mono hs2))
              clear hown hB3
              go_wp2
              go_ret
              exact ⟨⟨_, C, rfl, HCh.out, HC4.out, Hown.out⟩, HBz.out⟩
end Go.Proofs.Ytpbpdgknjbjlcaa
