/- PairsOrder walked. -/
import Derived.Test.YtlcmjpligaiadaaWe
namespace Go.Proofs.Ytlcmjpligaiadaa
open Go.RowKit
theorem min5 (n : Nat) : (if (500 : Int) < (n : Int) then (500 : Int) else (n : Int)) = ((min n 500 : Nat) : Int) := by split <;> omega
set_option maxRecDepth 100000 in
set_option maxHeartbeats 4000000 in
theorem porder_any (lv kv : Value) (ln kn : Nat) (l k : List Pr) (hl : l.length = ln) (hk : k.length = kn) (w : World) (hr : Rd w lv ln 2 (pairCells l)) (hq : Rd w kv kn 2 (pairCells k)) :
    Calls Try.prog 6 #[lv, kv] w fun e w' => e = .returned (.bool true) ∧ Below w.heap.size w w' := by
  obtain ⟨la, lc, rfl, l1, l2⟩ := hr.shape
  obtain ⟨ka, kc, rfl, k1, k2⟩ := hq.shape
  have hmin := min5 ln
  have hmik := min5 kn
  obtain ⟨m, hm⟩ : ∃ m : Nat, m = min ln 500 := ⟨_, rfl⟩
  obtain ⟨r, hr2⟩ : ∃ r : Nat, r = min kn 500 := ⟨_, rfl⟩
  have hmn : m ≤ ln := by omega
  have hm5 : m ≤ 500 := by omega
  have hrn : r ≤ kn := by omega
  have hr5 : r ≤ 500 := by omega
  rw [← hm] at hmin
  rw [← hr2] at hmik
  have hrm := hr.take hmn
  have hqm := hq.take hrn
  rw [pairs_take] at hrm hqm
  obtain ⟨L, hL⟩ : ∃ L, L = l.take m := ⟨_, rfl⟩
  obtain ⟨K, hK⟩ : ∃ K, K = k.take r := ⟨_, rfl⟩
  have HL : L.length = m := by rw [hL, List.length_take]; omega
  have HK : K.length = r := by rw [hK, List.length_take]; omega
  rw [← hL] at hrm
  rw [← hK] at hqm
  have HLl := Lib.hid HL
  have HKl := Lib.hid HK
  clear hm hr2 HL HK hL hK
  go_enter Try.func6, Try.ntmps6
  go_wp2_with fail
  refine (awake4_any w).mono ?_
  rintro e w0 ⟨rfl, B0⟩
  go_wp2_with fail
  refine (pnew_ok 4096 4096 rfl w.heap.size w0 (by decide) (by decide)).mono ?_
  rintro e w1 ⟨rfl, S1, B1⟩
  go_wp2_with fail
  refine (pnew_ok 4096 4096 rfl w.heap.size w1 (by decide) (by decide)).mono ?_
  rintro e w2 ⟨rfl, T2, B2⟩
  go_wp2_with fail
  refine (pnew_ok 4096 4096 rfl w.heap.size w2 (by decide) (by decide)).mono ?_
  rintro e w3 ⟨rfl, U3, B3⟩
  have z0 := B0.size
  have z1 := B1.size
  have z2 := B2.size
  have z3 := B3.size
  have x1 := S1.head.lt
  have x2 := T2.head.lt
  have x3 := U3.head.lt
  have S3 := (S1.new B2).new B3
  have T3 := T2.new B3
  have M3 : Mod (fun j => w.heap.size ≤ j) w w3 := (((below_mod B0 (S := fun j => w.heap.size ≤ j)).trans (below_mod B1)).trans (below_mod B2)).trans (below_mod B3)
  obtain ⟨s, hs⟩ : ∃ s, w0.heap.size = s := ⟨_, rfl⟩
  obtain ⟨t, ht⟩ : ∃ t, w1.heap.size = t := ⟨_, rfl⟩
  obtain ⟨u, hu⟩ : ∃ u, w2.heap.size = u := ⟨_, rfl⟩
  rw [hs] at S3 x1 z0 ⊢
  rw [ht] at T3 x2 z1 ⊢
  rw [hu] at U3 x3 z2 ⊢
  have hst : s < t := by omega
  have htu : t < u := by omega
  have hus : w.heap.size ≤ s := z0
  rw [hs] at z1
  clear S1 T2 hs ht hu
  go_wp2
  have X3 := Three.start S3 T3 U3 hus hst htu
  clear S3 T3 U3
  go_loopw [12] (fun i wr => ∃ k : Nat, k ≤ m ∧ i = .int .i64 k ∧ Mod (fun j => w.heap.size ≤ j) w wr ∧ ∃ va vb vc, Three w.heap.size wr s t u va vb vc (putAll 4096 (L.take k)) (putAll 4096 (L.reverse.take k)) []) (fun i _ => m - (intOf i).toNat)
  case atStart => exact ⟨0, Nat.zero_le _, rfl, M3, _, _, _, by rw [List.take_zero, List.take_zero]; exact X3⟩
  case round =>
    obtain ⟨k, hk, rfl, Mr, va, vb, vc, Xr⟩ := hrel
    by_cases hlt : k < m
    · have hkI : (k : Int) < (m : Int) := by omega
      obtain ⟨p, hp⟩ : ∃ p, L[k]? = some p := ⟨_, List.getElem?_eq_getElem (by rw [HLl.out]; exact hlt)⟩
      obtain ⟨d, hd⟩ : ∃ d : Nat, d = m - 1 - k := ⟨_, rfl⟩
      have hdI : (m : Int) - 1 - (k : Int) = (d : Int) := by omega
      have hdm : d < m := by omega
      obtain ⟨q, hq'⟩ : ∃ q, L[d]? = some q := ⟨_, List.getElem?_eq_getElem (by rw [HLl.out]; exact hdm)⟩
      obtain ⟨ab, ao, rfl⟩ := hrm.addr (by omega)
      have hr' := hrm.mod Mr (fun b hb => by have := hr.block_lt (by omega); simp [Value.ownBlock] at hb; omega)
      obtain ⟨f0, f1⟩ := hr'.pair HLl.out hlt hp
      have hd1 : (d : Int) < (m : Int) := by omega
      have Hd := Lib.hid hd
      clear hd
      have hw := Mr.size
      go_wp2_with fail
      refine (put_any s w.heap.size 4096 va (putAll 4096 (L.take k)) p _ hw Xr.sa).mono ?_
      rintro e w4 ⟨he, v4, S4, m4, q4⟩
      subst he
      have X4 := Xr.put hw S4 m4 q4
      have M4 := Mr.trans (m4.mono (fun j hj h => Xr.ha j h))
      have hr4 := hrm.mod M4 (fun b hb => by have := hr.block_lt (by omega); simp [Value.ownBlock] at hb; omega)
      obtain ⟨g0, g1⟩ := hr4.pair HLl.out hdm hq'
      have hw4 := M4.size
      clear f0 f1
      go_wp2_with fail
      refine (put_any t w.heap.size 4096 vb (putAll 4096 (L.reverse.take k)) q _ hw4 X4.sb).mono ?_
      rintro e w5 ⟨he, v5, S5, m5, q5⟩
      subst he
      have X5 := (X4.swapB.put hw4 S5 m5 q5).swapB
      have M5 := M4.trans (m5.mono (fun j hj h => X4.hb j h))
      go_wp2
      go_roundw
      case rel =>
        refine ⟨k + 1, by omega, by go_num, M5, v4, v5, vc, ?_⟩
        rw [take_at hp, take_at (rev_at HLl.out hlt (by rw [← Hd.out]; exact hq')), putAll_snoc, putAll_snoc]
        exact X5
      case measure => simp [intOf]; omega
    · obtain rfl : k = m := by omega
      have hkI : ¬ (k : Int) < (k : Int) := by omega
      have t1 : L.take k = L := by rw [← HLl.out, List.take_length]
      have t2 : L.reverse.take k = L.reverse := by rw [List.take_of_length_le (by rw [List.length_reverse, HLl.out]; omega)]
      rw [t1, t2, putAll_rev 4096 L (by rw [HLl.out]; omega)] at Xr
      clear t1 t2
      obtain ⟨A, hA⟩ : ∃ A, A = putAll 4096 L := ⟨_, rfl⟩
      have hAr : Rising A := by rw [hA]; exact putAll_rising 4096 L (by rw [HLl.out]; omega)
      rw [← hA] at Xr
      clear hA
      go_wp2
      go_loopw [13] (fun i wr => ∃ j : Nat, j ≤ r ∧ i = .int .i64 j ∧ Mod (fun j => w.heap.size ≤ j) w wr ∧ ∃ va vb vc, Three w.heap.size wr s t u va vb vc A A (putAll 4096 (K.take j))) (fun i _ => r - (intOf i).toNat)
      case atStart => exact ⟨0, Nat.zero_le _, rfl, Mr, va, vb, vc, by rw [List.take_zero]; exact Xr⟩
      case round =>
        clear Xr Mr va vb vc
        obtain ⟨j, hj, rfl, Mr, va, vb, vc, Xr⟩ := hrel
        by_cases hlt : j < r
        · have hkI' : (j : Int) < (r : Int) := by omega
          obtain ⟨p, hp⟩ : ∃ p, K[j]? = some p := ⟨_, List.getElem?_eq_getElem (by rw [HKl.out]; exact hlt)⟩
          obtain ⟨ab, ao, rfl⟩ := hqm.addr (by omega)
          have hr' := hqm.mod Mr (fun b hb => by have := hq.block_lt (by omega); simp [Value.ownBlock] at hb; omega)
          obtain ⟨f0, f1⟩ := hr'.pair HKl.out hlt hp
          have hw := Mr.size
          go_wp2_with fail
          refine (put_any u w.heap.size 4096 vc (putAll 4096 (K.take j)) p _ hw Xr.sc).mono ?_
          rintro e w4 ⟨he, v4, S4, m4, q4⟩
          subst he
          have X4 := (Xr.swapC.put hw S4 m4 q4).swapC
          have M4 := Mr.trans (m4.mono (fun j hj h => Xr.hc j h))
          go_wp2
          go_roundw
          case rel =>
            refine ⟨j + 1, by omega, by go_num, M4, va, vb, v4, ?_⟩
            rw [take_at hp, putAll_snoc]
            exact X4
          case measure => simp [intOf]; omega
        · obtain rfl : j = r := by omega
          have hkI' : ¬ (j : Int) < (j : Int) := by omega
          have t1 : K.take j = K := by rw [← HKl.out, List.take_length]
          rw [t1] at Xr
          clear t1
          obtain ⟨B, hB⟩ : ∃ B, B = putAll 4096 K := ⟨_, rfl⟩
          have hBr : Rising B := by rw [hB]; exact putAll_rising 4096 K (by rw [HKl.out]; omega)
          rw [← hB] at Xr
          clear hB
          go_wp2_with fail
          refine (allof_any s w.heap.size 4096 va A _ Xr.sa).mono ?_
          rintro e w4 ⟨ov, rfl, o4, B4⟩
          have X4 := Xr.new B4
          have M4 := Mr.trans (below_mod B4 (S := fun j => w.heap.size ≤ j))
          have R4 := Rd.of_own o4
          obtain ⟨oa, oc, rfl, o1, oc2⟩ := R4.shape
          have hA5 := Xr.sa.len
          obtain ⟨na, hna⟩ : ∃ na, na = A.length := ⟨_, rfl⟩
          rw [← hna] at R4 o1 hA5 ⊢
          have Hna := Lib.hid hna
          clear hna o4
          go_wp2
          go_loopw [15] (fun i wr => ∃ c : Nat, 1 ≤ c ∧ (c ≤ na ∨ c = 1) ∧ i = .int .i64 c ∧ ∃ d, wr = w4.drewN d) (fun i _ => na - (intOf i).toNat)
          case atStart => exact ⟨1, by omega, .inr rfl, rfl, 0, rfl⟩
          case round =>
            obtain ⟨c, hc1, hc2, rfl, d, rfl⟩ := hrel
            by_cases hlt : c < na
            · have hkI'' : (c : Int) < (na : Int) := by omega
              obtain ⟨y, hy⟩ : ∃ y : Nat, y = c - 1 := ⟨_, rfl⟩
              have hyI : (c : Int) - 1 = (y : Int) := by omega
              have hyn : y < na := by omega
              have hyn' : (y : Int) < (na : Int) := by omega
              obtain ⟨p, hp⟩ : ∃ p, A[c]? = some p := ⟨_, List.getElem?_eq_getElem (by rw [← Hna.out]; exact hlt)⟩
              obtain ⟨q, hq'⟩ : ∃ q, A[y]? = some q := ⟨_, List.getElem?_eq_getElem (by rw [← Hna.out]; exact hyn)⟩
              have hlp := hAr.at (by omega) hq' hp
              obtain ⟨ab, ao, rfl⟩ := R4.addr (by omega)
              obtain ⟨f0, f1⟩ := R4.pair Hna.out.symm hlt hp
              obtain ⟨g0, g1⟩ := R4.pair Hna.out.symm hyn hq'
              obtain ⟨p1, p2⟩ := p
              obtain ⟨q1, q2⟩ := q
              simp only [ltP] at hlp f0 f1 g0 g1
              clear hy hp hq'
              rcases hlp with h1 | ⟨h1, h2⟩
              · have e1 : decide (p1 < q1) = false := by simp; omega
                have e2 : (p1 == q1) = false := by simp; omega
                go_wp2
                go_quiet (fail)
                go_wp2
                go_roundw
                case rel => exact ⟨c + 1, by omega, .inl (by omega), by go_num, _, rfl⟩
                case measure => simp [intOf]; omega
              · subst h1
                have e1 : decide (q1 < q1) = false := by simp
                have e2 : (q1 == q1) = true := by simp
                have e3 : decide (p2 ≤ q2) = false := by simp; omega
                go_wp2
                go_quiet (fail)
                go_wp2
                go_roundw
                case rel => exact ⟨c + 1, by omega, .inl (by omega), by go_num, _, rfl⟩
                case measure => simp [intOf]; omega
            · have hkI'' : ¬ (c : Int) < (na : Int) := by omega
              have BD : Below w4.heap.size w4 (w4.drewN d) := Below.drewN' (Below.refl _ w4) d
              have X5 := X4.new BD
              have M5 := M4.trans (below_mod BD)
              have R5 := R4.drewN d
              generalize w4.drewN d = w5 at BD X5 M5 R5 ⊢
              go_wp2_with fail
              refine (beyond_any s w.heap.size 4096 u w.heap.size 4096 va vc A B _ X5.sa X5.sc).mono ?_
              rintro e w6 ⟨oa6, c6, rfl, o6, B6⟩
              have X6 := X5.new B6
              have M6 := M5.trans (below_mod B6 (S := fun j => w.heap.size ≤ j))
              have R6 := R5.new B6
              obtain ⟨ao6, cap6, ev6, _, _, D6⟩ := own_clip o6
              obtain ⟨rfl, -, -⟩ := Value.slice.inj ev6
              have E6 := D6.1
              have cnt1 := bey_both A B
              rw [← Hna.out] at cnt1
              obtain ⟨n1, hn1⟩ : ∃ n1, n1 = (beyP A B).length := ⟨_, rfl⟩
              rw [← hn1] at E6 cnt1 ⊢
              have Hn1 := Lib.hid hn1
              clear hn1 o6 D6 ev6 X5 M5 R5
              go_wp2_with fail
              refine (beyond_any u w.heap.size 4096 s w.heap.size 4096 vc va B A _ X6.sc X6.sa).mono ?_
              rintro e w7 ⟨oa7, c7, rfl, o7, B7⟩
              have X7 := X6.new B7
              have M7 := M6.trans (below_mod B7 (S := fun j => w.heap.size ≤ j))
              have R7 := R6.new B7
              have E7 := E6.new B7
              have cnt2 := bey_comm hAr hBr
              have hBl := X7.sc.len
              have hAl := X7.sa.len
              rw [← Hna.out] at hAl
              obtain ⟨n2, hn2⟩ : ∃ n2, n2 = (beyP B A).length := ⟨_, rfl⟩
              rw [← hn2] at cnt2 ⊢
              clear hn2 o7 E6 R6 X6 M6
              go_wp2
              go_loopw [18] (fun i wr => ∃ c : Nat, c ≤ n1 ∧ i = .int .i64 c ∧ Below w7.heap.size w7 wr) (fun i _ => n1 - (intOf i).toNat)
              case atStart => exact ⟨0, Nat.zero_le _, rfl, Below.refl _ _⟩
              case round =>
                obtain ⟨c, hc, rfl, Bw⟩ := hrel
                by_cases hlt : c < n1
                · have hkI3 : (c : Int) < (n1 : Int) := by omega
                  obtain ⟨p, hp⟩ : ∃ p, (beyP A B)[c]? = some p := ⟨_, List.getElem?_eq_getElem (by rw [← Hn1.out]; exact hlt)⟩
                  obtain ⟨h1, h2⟩ := beyP_mem (List.mem_of_getElem? hp)
                  obtain ⟨ab, ao, rfl⟩ := E7.addr (by omega)
                  have Er := E7.new Bw
                  obtain ⟨f0, f1⟩ := Er.pair Hn1.out.symm hlt hp
                  have Xw := X7.new Bw
                  go_wp2_with fail
                  refine (has_any s w.heap.size 4096 va A p _ Xw.sa).mono ?_
                  rintro e w8 ⟨rfl, B8⟩
                  rw [h1]
                  have Xw8 := Xw.new B8
                  have Er8 := Er.new B8
                  obtain ⟨g0, g1⟩ := Er8.pair Hn1.out.symm hlt hp
                  clear f0 f1
                  go_wp2_with fail
                  refine (has_any u w.heap.size 4096 vc B p _ Xw8.sc).mono ?_
                  rintro e w9 ⟨rfl, B9⟩
                  rw [h2]
                  go_wp2
                  go_roundw
                  case rel => exact ⟨c + 1, by omega, by go_num, (Bw.trans (B8.mono Bw.size)).trans (B9.mono (by have := Bw.size; have := B8.size; omega))⟩
                  case measure => simp [intOf]; omega
                · have hkI3 : ¬ (c : Int) < (n1 : Int) := by omega
                  go_wp2
                  go_loopw [19, 20] (fun c i wr => ∃ k : Nat, k ≤ na ∧ i = .int .i64 k ∧ c = .int .i64 (bothN (A.take k) B : Nat) ∧ Below w7.heap.size w7 wr) (fun _ i _ => na - (intOf i).toNat)
                  case atStart => exact ⟨0, Nat.zero_le _, rfl, rfl, Bw⟩
                  case round =>
                    obtain ⟨k, hk, rfl, rfl, Bz⟩ := hrel
                    have Xz := X7.new Bz
                    have Rz := R7.new Bz
                    by_cases hlt : k < na
                    · have hkI4 : (k : Int) < (na : Int) := by omega
                      obtain ⟨p, hp⟩ : ∃ p, A[k]? = some p := ⟨_, List.getElem?_eq_getElem (by rw [← Hna.out]; exact hlt)⟩
                      obtain ⟨ab, ao, rfl⟩ := Rz.addr (by omega)
                      obtain ⟨f0, f1⟩ := Rz.pair Hna.out.symm hlt hp
                      have hbd := bothN_le (A.take k) B
                      rw [List.length_take] at hbd
                      have hsn := bothN_snoc (A.take k) B p
                      rw [← take_at hp] at hsn
                      have Hsn := Lib.hid hsn
                      have hbk : bothN (A.take k) B ≤ k := by omega
                      clear hsn hbd
                      generalize bothN (A.take k) B = y at Hsn hbk ⊢
                      have hyb : (y : Int) ≤ 4096 := by omega
                      go_wp2_with fail
                      refine (has_any u w.heap.size 4096 vc B p _ Xz.sc).mono ?_
                      rintro e wq ⟨rfl, Bq⟩
                      cases hb : hasP B p with
                      | true =>
                        go_wp2
                        go_roundw
                        case rel => exact ⟨k + 1, by omega, by go_num, by rw [Hsn.out, if_pos hb]; go_num, Bz.trans (Bq.mono Bz.size)⟩
                        case measure => simp [intOf]; omega
                      | false =>
                        go_wp2
                        go_roundw
                        case rel => exact ⟨k + 1, by omega, by go_num, by rw [Hsn.out, if_neg (by rw [hb]; simp)], Bz.trans (Bq.mono Bz.size)⟩
                        case measure => simp [intOf]; omega
                    · obtain rfl : k = na := by omega
                      have hkI4 : ¬ (k : Int) < (k : Int) := by omega
                      have t1 : A.take k = A := by rw [Hna.out, List.take_length]
                      rw [t1]
                      obtain ⟨y, hy⟩ : ∃ y, y = bothN A B := ⟨_, rfl⟩
                      rw [← hy] at cnt1 cnt2 ⊢
                      have Mz := M7.trans (below_mod Bz (S := fun j => w.heap.size ≤ j))
                      clear t1 hy
                      go_wp2_with fail
                      refine (allof_any t w.heap.size 4096 vb A _ Xz.sb).mono ?_
                      rintro e wa ⟨ta, rfl, oa, Ba⟩
                      have Ra := Rd.of_own oa
                      rw [← Hna.out] at Ra
                      have Xa := Xz.new Ba
                      go_wp2_with fail
                      refine (same4_any _ ta k A Hna.out.symm _ (Rz.new Ba) Ra).mono ?_
                      rintro e wb ⟨rfl, jb, rfl⟩
                      have Bb : Below wa.heap.size wa (wa.drewN jb) := Below.drewN' (Below.refl _ wa) jb
                      have Xb := Xa.new Bb
                      go_wp2_with fail
                      refine (beyond_any s w.heap.size 4096 t w.heap.size 4096 va vb A A _ Xb.sa Xb.sb).mono ?_
                      rintro e wc ⟨oc', cc, he, ox, Bc⟩
                      rw [beyP_self] at he
                      simp only [List.length_nil] at he
                      subst he
                      have Xc := Xb.new Bc
                      have c1 : ((n1 : Int) + (y : Int) == (k : Int)) = true := by simp; omega
                      have c2 : ((n2 : Int) + (y : Int) == (B.length : Int)) = true := by simp; omega
                      have c3 : (y : Int) ≤ 4096 := by omega
                      have c4 : (n1 : Int) ≤ 4096 := by omega
                      have c5 : (n2 : Int) ≤ 4096 := by omega
                      have Cnt := Lib.hid (And.intro cnt1 cnt2)
                      clear cnt1 cnt2
                      go_wp2_with fail
                      refine (plen_any u w.heap.size 4096 vc B _ Xc.sc).mono ?_
                      rintro e wd ⟨rfl, rfl⟩
                      go_wp2
                      go_ret
                      refine ⟨rfl, ?_⟩
                      exact (((Mz.trans (below_mod Ba)).trans (below_mod Bb)).trans (below_mod Bc)).below (Nat.le_refl _) (fun j h1 h2 => by omega)
end Go.Proofs.Ytlcmjpligaiadaa
