/- EventDiffs, walked. -/
import Derived.Test.YtlcmjpligaiadaaE9
import Derived.Test.YtlcmjpligaiadaaEd
import Derived.Test.YtlcmjpligaiadaaWl
namespace Go.Proofs.Ytlcmjpligaiadaa
open Go.RowKit
/-- The queue of differences beside the four sets. -/
structure QuadE (w W : World) (s r t u : Nat) (vs vr vt vu : Value) (C A B B' : List Pr) (lv : Value) (n : Nat) (l : List Ev) : Prop where
  quad : Quad w W s r t u vs vr vt vu 512 512 C A B B'
  rl : Rd W lv n 3 (evCells l)
  far : ∀ g, lv.ownBlock = some g → g < W.heap.size ∧ ∀ j, Foot s vs j → j ≠ g
section
variable {w W W' : World} {s r t u n : Nat} {vs vr vt vu lv : Value} {C A B B' : List Pr} {l : List Ev}
theorem QuadE.new (h : QuadE w W s r t u vs vr vt vu C A B B' lv n l) (hB : Below W.heap.size W W') : QuadE w W' s r t u vs vr vt vu C A B B' lv n l :=
  ⟨h.quad.new hB, h.rl.new hB, fun g hg => ⟨by have := (h.far g hg).1; have := hB.size; omega, (h.far g hg).2⟩⟩
theorem QuadE.turnS {vs' : Value} {c : List Pr} (h : QuadE w W s r t u vs vr vt vu C A B B' lv n l) (S : SetAt W' s w.heap.size vs' 512 c) (M : Mod (Foot s vs) W W') (hq : ∀ j, Foot s vs' j → Foot s vs j ∨ W.heap.size ≤ j) :
    QuadE w W' s r t u vs' vr vt vu c A B B' lv n l :=
  ⟨h.quad.turnS S M hq, h.rl.mod M (fun b hb e => (h.far b hb).2 b e rfl), fun g hg => ⟨by have := (h.far g hg).1; have := M.size; omega, fun j hj => by
    rcases hq j hj with h3 | h3
    · exact (h.far g hg).2 j h3
    · have := (h.far g hg).1; omega⟩⟩
end
theorem diff_get1 {A B : List Pr} {k : Nat} (h : k < (beyP B A).length) : ∃ p, (beyP B A)[k]? = some p ∧ (diffL A B)[k]? = some (mkEv 1 p) := by
  refine ⟨(beyP B A)[k], List.getElem?_eq_getElem h, ?_⟩
  unfold diffL
  rw [List.getElem?_append_left (by simpa using h)]
  simp [h]
theorem diff_get2 {A B : List Pr} {k : Nat} (h : (beyP B A).length ≤ k) (h2 : k < (diffL A B).length) : ∃ p, (beyP A B)[k - (beyP B A).length]? = some p ∧ (diffL A B)[k]? = some (mkEv 2 p) := by
  have hl : (diffL A B).length = (beyP B A).length + (beyP A B).length := by simp [diffL]
  refine ⟨(beyP A B)[k - (beyP B A).length]'(by omega), List.getElem?_eq_getElem (by omega), ?_⟩
  unfold diffL
  rw [List.getElem?_append_right (by simpa using h)]
  simp [show k - (beyP B A).length < (beyP A B).length by omega]
theorem diffL_len (A B : List Pr) : (diffL A B).length = (beyP B A).length + (beyP A B).length := by simp [diffL]
theorem diffL_self (B : List Pr) : diffL B B = [] := by simp [diffL, beyP_self]
theorem putS_len (room : Nat) (l : List Pr) (p : Pr) : (putS room l p).length ≤ l.length + 1 := by
  unfold putS
  split
  · rw [putP_len]; exact Nat.le_refl _
  · omega
theorem foldl_put_len (room : Nat) : ∀ (ps l : List Pr), (ps.foldl (putS room) l).length ≤ l.length + ps.length
  | [], l => by simp
  | p :: ps, l => by
    have := foldl_put_len room ps (putS room l p)
    have := putS_len room l p
    simp only [List.foldl_cons, List.length_cons]
    omega
theorem putAll_len (room : Nat) (ps : List Pr) : (putAll room ps).length ≤ ps.length := by
  have := foldl_put_len room ps []
  simpa [putAll] using this
set_option maxRecDepth 100000 in
set_option maxHeartbeats 8000000 in
theorem diffs_any (av bv : Value) (n m : Nat) (xs ys : List Pr) (hn : xs.length = n) (hm : ys.length = m) (w : World) (ha : Rd w av n 2 (pairCells xs)) (hb : Rd w bv m 2 (pairCells ys)) :
    Calls Try.prog 9 #[av, bv] w fun e w' => e = .returned (.bool true) ∧ Below w.heap.size w w' := by
  obtain ⟨aa, ac, rfl, a1, a2⟩ := ha.shape
  obtain ⟨ba, bc, rfl, b1, b2⟩ := hb.shape
  have Hn := Lib.hid hn
  have Hm := Lib.hid hm
  clear hn hm
  go_enter Try.func9, Try.ntmps9
  go_wp2_with fail
  refine (awake19_any w).mono ?_
  rintro e w1 ⟨rfl, B1⟩
  go_wp2_with fail
  refine (pnew_ok 512 512 rfl w.heap.size w1 (by decide) (by decide)).mono ?_
  rintro e w2 ⟨rfl, S2, B2⟩
  go_wp2_with fail
  refine (pnew_ok 512 512 rfl w.heap.size w2 (by decide) (by decide)).mono ?_
  rintro e w3 ⟨rfl, S3, B3⟩
  go_wp2_with fail
  refine (rnew_ok 512 512 rfl w.heap.size w3 (by decide) (by decide)).mono ?_
  rintro e w4 ⟨rfl, S4, B4⟩
  go_wp2_with fail
  refine (rnew_ok 512 512 rfl w.heap.size w4 (by decide) (by decide)).mono ?_
  rintro e w5 ⟨rfl, S5, B5⟩
  have h1 := B1.size
  have h2 := S2.head.lt
  have h3 := S3.head.lt
  have h4 := S4.head.lt
  have h5 := S5.head.lt
  have h2' := B2.size
  have h3' := B3.size
  have h4' := B4.size
  have fn : ∀ s j, Foot s (.slice none 0 0) j → j = s := fun s j h => foot_nil h
  have Q5 : Quad w w5 w1.heap.size w3.heap.size w2.heap.size w4.heap.size (.slice none 0 0) (.slice none 0 0) (.slice none 0 0) (.slice none 0 0) 512 512 [] [] [] [] :=
    ⟨(((B1.trans (B2.mono h1)).trans (B3.mono (by omega))).trans (B4.mono (by omega))).trans (B5.mono (by omega)), ((S2.new B3).new B4).new B5, (S4.new B5), (S3.new B4).new B5, S5,
     fun j h1 h2 => by
       have := fn _ _ h1
       rcases h2 with h2 | h2 | h2 <;> (have := fn _ _ h2; omega),
     fun j h1 h2 => by
       have := fn _ _ h1
       rcases h2 with h2 | h2 <;> (have := fn _ _ h2; omega),
     fun j h1 h2 => by have := fn _ _ h1; have := fn _ _ h2; omega,
     fun j h => by rcases h with h | h | h | h <;> (have := fn _ _ h; omega)⟩
  generalize w1.heap.size = s at Q5 ⊢
  generalize w2.heap.size = t at Q5 ⊢
  generalize w3.heap.size = r at Q5 ⊢
  generalize w4.heap.size = u at Q5 ⊢
  clear S2 S3 S4 S5 B1 B2 B3 B4 B5 h1 h2 h3 h4 h5 h2' h3' h4' fn
  go_upto_block 0 with (fail)
  go_cut [14] from 55 to 76 (fun _ wx => ∃ (vs vr : Value), Quad w wx s r t u vs vr (.slice none 0 0) (.slice none 0 0) 512 512 (putAll 512 (xs.take 200)) (putAll 512 (xs.take 200)) [] [])
  case first => as_aux_lemma =>
    go_wp2
    go_loopw [14] (fun i wr => ∃ (k : Nat) (vs vr : Value), k ≤ n ∧ k ≤ 200 ∧ i = .int .i64 k ∧ Quad w wr s r t u vs vr (.slice none 0 0) (.slice none 0 0) 512 512 (putAll 512 (xs.take k)) (putAll 512 (xs.take k)) [] []) (fun i _ => 200 - (intOf i).toNat)
    case atStart => exact ⟨0, _, _, Nat.zero_le _, Nat.zero_le _, rfl, by rw [List.take_zero]; exact Q5⟩
    case round =>
      clear Q5
      obtain ⟨k, vs, vr, hk, hk2, rfl, Q⟩ := hrel
      rcases (show (k < n ∧ k < 200) ∨ (¬ k < n ∨ (k < n ∧ ¬ k < 200)) by omega) with ⟨hlt, hlt2⟩ | hend
      · skip
        have hkI : (k : Int) < (n : Int) := by omega
        have hkI2 : (k : Int) < 200 := by omega
        obtain ⟨p, hp⟩ : ∃ p, xs[k]? = some p := ⟨_, List.getElem?_eq_getElem (by rw [Hn.out]; exact hlt)⟩
        obtain ⟨ab, ao, rfl⟩ := ha.addr (by omega)
        have hr' := ha.new Q.bel
        obtain ⟨f0, f1⟩ := hr'.pair Hn.out hlt hp
        have hsn := putAll_snoc 512 (xs.take k) p
        rw [← take_at hp] at hsn
        have Hsn := Lib.hid hsn
        have hp1 := put_any s w.heap.size 512 vs (putAll 512 (xs.take k)) p wr Q.bel.size Q.ss
        have hp2 := fun W hb hs => rput_any r w.heap.size 512 vr (putAll 512 (xs.take k)) p W hb Q.ss.rising hs
        have Hp1 := Lib.hid hp1
        have Hp2 := Lib.hid hp2
        have HQ := Lib.hid Q
        have Hp := Lib.hid hp
        clear hp hsn hp1 hp2 Q
        go_wp2_with fail
        refine Hp1.out.mono ?_
        rintro e w6 ⟨he, v6, S6, m6, q6⟩
        subst he
        have Q6 := HQ.out.turnS S6 m6 q6
        obtain ⟨f0, f1⟩ := (ha.new Q6.bel).pair Hn.out hlt Hp.out
        go_wp2_with fail
        refine (Hp2.out _ Q6.bel.size Q6.sr).mono ?_
        rintro e w7 ⟨he, v7, S7, m7, q7⟩
        subst he
        have Q7 := Lib.hid (Q6.turnR S7 m7 q7)
        clear Q6
        go_wp2
        go_roundw
        case rel => exact ⟨k + 1, v6, v7, by omega, by omega, by go_num, by rw [Hsn.out]; exact Q7.out⟩
        case measure => simp [intOf]; omega
      · have hxt : xs.take k = xs.take 200 := by
          rcases hend with h | h
          · rw [List.take_of_length_le (by rw [Hn.out]; omega), List.take_of_length_le (by rw [Hn.out]; omega)]
          · rw [show k = 200 by omega]
        rw [hxt] at Q
        have HQ := Lib.hid Q
        clear hxt Q
        rcases hend with hend | ⟨hend, hend2⟩
        all_goals
          go_wp2
          go_meet
          exact ⟨_, _, HQ.out⟩
  case rest =>
    clear Q5
    obtain ⟨vs, vr, Q⟩ := hcut
    have hAr : Rising (putAll 512 (xs.take 200)) := putAll_rising 512 _ (by rw [List.length_take]; omega)
    have hAl : (putAll 512 (xs.take 200)).length ≤ 200 := by have := putAll_len 512 (xs.take 200); rw [List.length_take] at this; omega
    have hAm : ∀ q, q ∈ putAll 512 (xs.take 200) → q.1 < q.2 := fun q hq => ((putAll_mem 512 _ (by rw [List.length_take]; omega) q).1 hq).2
    obtain ⟨A, hA⟩ : ∃ A, A = putAll 512 (xs.take 200) := ⟨_, rfl⟩
    rw [← hA] at Q hAr hAl hAm
    have HAm := Lib.hid hAm
    have HAr := Lib.hid hAr
    clear hA hAm hAr
    go_upto_block 2 with (fail)
    go_cut [15] from 55 to 98 (fun _ wx => ∃ (vt vu : Value), Quad w wx s r t u vs vr vt vu 512 512 A A (putAll 512 (ys.take 200)) (putAll 512 (ys.take 200)))
    case first => as_aux_lemma =>
      go_wp2
      go_loopw [15] (fun i wr => ∃ (k : Nat) (vt vu : Value), k ≤ m ∧ k ≤ 200 ∧ i = .int .i64 k ∧ Quad w wr s r t u vs vr vt vu 512 512 A A (putAll 512 (ys.take k)) (putAll 512 (ys.take k))) (fun i _ => 200 - (intOf i).toNat)
      case atStart => exact ⟨0, _, _, Nat.zero_le _, Nat.zero_le _, rfl, by rw [List.take_zero]; exact Q⟩
      case round =>
        clear Q
        obtain ⟨k, vt, vu, hk, hk2, rfl, Q⟩ := hrel
        rcases (show (k < m ∧ k < 200) ∨ (¬ k < m ∨ (k < m ∧ ¬ k < 200)) by omega) with ⟨hlt, hlt2⟩ | hend
        · skip
          have hkI : (k : Int) < (m : Int) := by omega
          have hkI2 : (k : Int) < 200 := by omega
          obtain ⟨p, hp⟩ : ∃ p, ys[k]? = some p := ⟨_, List.getElem?_eq_getElem (by rw [Hm.out]; exact hlt)⟩
          obtain ⟨bb, bo, rfl⟩ := hb.addr (by omega)
          have hr' := hb.new Q.bel
          obtain ⟨f0, f1⟩ := hr'.pair Hm.out hlt hp
          have hsn := putAll_snoc 512 (ys.take k) p
          rw [← take_at hp] at hsn
          have Hsn := Lib.hid hsn
          have hp1 := put_any t w.heap.size 512 vt (putAll 512 (ys.take k)) p wr Q.bel.size Q.st
          have hp2 := fun W h0 hs => rput_any u w.heap.size 512 vu (putAll 512 (ys.take k)) p W h0 Q.st.rising hs
          have Hp1 := Lib.hid hp1
          have Hp2 := Lib.hid hp2
          have HQ := Lib.hid Q
          have Hp := Lib.hid hp
          clear hp hsn hp1 hp2 Q
          go_wp2_with fail
          refine Hp1.out.mono ?_
          rintro e w6 ⟨he, v6, S6, m6, q6⟩
          subst he
          have Q6 := (HQ.out.swap).turnS S6 m6 q6
          obtain ⟨f0, f1⟩ := (hb.new Q6.bel).pair Hm.out hlt Hp.out
          go_wp2_with fail
          refine (Hp2.out _ Q6.bel.size Q6.sr).mono ?_
          rintro e w7 ⟨he, v7, S7, m7, q7⟩
          subst he
          have Q7 := Lib.hid ((Q6.turnR S7 m7 q7).swap)
          clear Q6
          go_wp2
          go_roundw
          case rel => exact ⟨k + 1, v6, v7, by omega, by omega, by go_num, by rw [Hsn.out]; exact Q7.out⟩
          case measure => simp [intOf]; omega
        · have hxt : ys.take k = ys.take 200 := by
            rcases hend with h | h
            · rw [List.take_of_length_le (by rw [Hm.out]; omega), List.take_of_length_le (by rw [Hm.out]; omega)]
            · rw [show k = 200 by omega]
          rw [hxt] at Q
          have HQ := Lib.hid Q
          clear hxt Q
          rcases hend with hend | ⟨hend, hend2⟩
          all_goals
            go_wp2
            go_meet
            exact ⟨_, _, HQ.out⟩
    case rest =>
      clear Q
      obtain ⟨vt, vu, Q⟩ := hcut
      have hBr : Rising (putAll 512 (ys.take 200)) := putAll_rising 512 _ (by rw [List.length_take]; omega)
      have hBl : (putAll 512 (ys.take 200)).length ≤ 200 := by have := putAll_len 512 (ys.take 200); rw [List.length_take] at this; omega
      have hBm : ∀ q, q ∈ putAll 512 (ys.take 200) → q.1 < q.2 := fun q hq => ((putAll_mem 512 _ (by rw [List.length_take]; omega) q).1 hq).2
      obtain ⟨B, hB⟩ : ∃ B, B = putAll 512 (ys.take 200) := ⟨_, rfl⟩
      rw [← hB] at Q hBr hBl hBm
      have HBm := Lib.hid hBm
      have HBr := Lib.hid hBr
      clear hB hBm hBr
      have hdif : ∀ (W : World) (vs vt : Value) (C : List Pr), SetAt W s w.heap.size vs 512 C → SetAt W t w.heap.size vt 512 B → C.length ≤ 4096 → Calls Try.prog 46 #[.pointer (some ⟨s, 0, none⟩), .pointer (some ⟨t, 0, none⟩)] W (AllPost (diffL C B) W) := fun W vs vt C h1 h2 h3 =>
        diff_any _ _ C B W (.inr ⟨s, _, _, _, rfl, h1, fun j h => h1.lt h⟩) (.inr ⟨t, _, _, _, rfl, h2, fun j h => h2.lt h⟩) h3 (by omega)
      have hdif0 : ∀ (W : World), SetAt W s w.heap.size vs 512 A → Calls Try.prog 46 #[.pointer (some ⟨s, 0, none⟩), .pointer none] W (AllPost (diffL A []) W) := fun W h1 =>
        diff_any _ _ A [] W (.inr ⟨s, _, _, _, rfl, h1, fun j h => h1.lt h⟩) (.inl ⟨rfl, rfl⟩) (by omega) (by simp)
      have hdif1 : ∀ (W : World), SetAt W t w.heap.size vt 512 B → Calls Try.prog 46 #[.pointer none, .pointer (some ⟨t, 0, none⟩)] W (AllPost (diffL [] B) W) := fun W h1 =>
        diff_any _ _ [] B W (.inl ⟨rfl, rfl⟩) (.inr ⟨t, _, _, _, rfl, h1, fun j h => h1.lt h⟩) (by simp) (by omega)
      have hdif2 : ∀ (W : World), Calls Try.prog 46 #[.pointer none, .pointer none] W (AllPost (diffL [] []) W) := fun W =>
        diff_any _ _ [] [] W (.inl ⟨rfl, rfl⟩) (.inl ⟨rfl, rfl⟩) (by simp) (by simp)
      have Hdif := Lib.hid hdif
      have Hdif0 := Lib.hid hdif0
      have Hdif1 := Lib.hid hdif1
      have Hdif2 := Lib.hid hdif2
      clear hdif hdif0 hdif1 hdif2
      have HQ := Lib.hid Q
      clear Q
      go_wp2_with fail
      refine (Hdif.out _ vs vt A HQ.out.ss HQ.out.st (by omega)).mono ?_
      rintro e w6 ⟨oa, c, rfl, o6, B6⟩
      have Q6 := HQ.out.new B6
      have hown6 : ∀ g, Value.ownBlock (.slice oa (diffL A B).length c) = some g → g < w6.heap.size ∧ ∀ j, Foot s vs j → j ≠ g := fun g hg => ⟨own_lt o6 hg, fun j hj => by have h1 := HQ.out.lt (j := j) (.inl hj); have h2 := ownBlock_ge o6 hg; omega⟩
      obtain ⟨ao6, cap6, ev6, _, _, D6⟩ := own_clip o6
      obtain ⟨rfl, -, -⟩ := Value.slice.inj ev6
      have E6 : QuadE w w6 s r t u vs vr vt vu A A B B (.slice oa (diffL A B).length (diffL A B).length) (diffL A B).length (diffL A B) := ⟨Q6, D6.1, fun g hg => hown6 g (by cases oa with | none => simp [Value.ownBlock] at hg | some a => simpa [Value.ownBlock] using hg)⟩
      clear D6 ev6 o6 hown6 Q6 B6
      have hnl := diffL_len A B
      have hb1 := beyP_le B A
      have hb2 := beyP_le A B
      obtain ⟨N, hN⟩ : ∃ N, N = (diffL A B).length := ⟨_, rfl⟩
      rw [← hN] at E6 hnl ⊢
      have HN := Lib.hid hN
      have Hnl := Lib.hid hnl
      have hN4 : N ≤ 400 := by omega
      clear hN hnl
      have HE6 := Lib.hid E6
      clear E6
      go_wp2_with fail
      refine (rdiff_any (.pointer (some ⟨r, 0, none⟩)) (.pointer (some ⟨u, 0, none⟩)) A B w6 (.inr ⟨_, _, _, _, rfl, HE6.out.quad.sr⟩) (.inr ⟨_, _, _, _, rfl, HE6.out.quad.sq⟩)).mono ?_
      rintro e w7 ⟨ov7, rfl, o7, B7⟩
      have E7 := HE6.out.new B7
      have R7 := Rd.of_own o7
      rw [← HN.out] at R7
      obtain ⟨ov7a, ov7c, rfl, _, _⟩ := R7.shape
      have hev7 := events_any _ _ N (diffL A B) HN.out.symm w7 E7.rl R7
      have Hev7 := Lib.hid hev7
      have HE7 := Lib.hid E7
      clear hev7 E7 R7 o7 B7
      go_wp2_with fail
      refine Hev7.out.mono ?_
      rintro e w8 ⟨rfl, j8, rfl⟩
      have HE8 := Lib.hid (HE7.out.new (Below.drewN' (Below.refl _ w7) j8))
      go_wp2_with fail
      refine (Hdif0.out _ HE8.out.quad.ss).mono ?_
      rintro e w11 ⟨oa11, c11, rfl, o11, B11⟩
      obtain ⟨ao11, cap11, ev11, _, _, D11⟩ := own_clip o11
      obtain ⟨rfl, -, -⟩ := Value.slice.inj ev11
      have R11 := D11.1
      have HE11 := Lib.hid (HE8.out.new B11)
      clear D11 ev11 o11 B11
      go_wp2_with fail
      refine (rdiff_any (.pointer (some ⟨r, 0, none⟩)) (.pointer none) A [] w11 (.inr ⟨_, _, _, _, rfl, HE11.out.quad.sr⟩) (.inl ⟨rfl, rfl⟩)).mono ?_
      rintro e w12 ⟨ov12, rfl, o12, B12⟩
      have R12 := Rd.of_own o12
      obtain ⟨oa12, oc12, rfl, _, _⟩ := R12.shape
      have hev12 := events_any _ _ (diffL A []).length (diffL A []) rfl w12 (R11.new B12) R12
      have Hev12 := Lib.hid hev12
      have HE12 := Lib.hid (HE11.out.new B12)
      clear hev12 R11 R12 o12 B12
      go_wp2_with fail
      refine Hev12.out.mono ?_
      rintro e w13 ⟨rfl, j13, rfl⟩
      have HE13 := Lib.hid (HE12.out.new (Below.drewN' (Below.refl _ w12) j13))
      go_wp2_with fail
      refine (Hdif1.out _ HE13.out.quad.st).mono ?_
      rintro e w21 ⟨oa21, c21, rfl, o21, B21⟩
      obtain ⟨ao21, cap21, ev21, _, _, D21⟩ := own_clip o21
      obtain ⟨rfl, -, -⟩ := Value.slice.inj ev21
      have R21 := D21.1
      have HE21 := Lib.hid (HE13.out.new B21)
      clear D21 ev21 o21 B21
      go_wp2_with fail
      refine (rdiff_any (.pointer none) (.pointer (some ⟨u, 0, none⟩)) [] B w21 (.inl ⟨rfl, rfl⟩) (.inr ⟨_, _, _, _, rfl, HE21.out.quad.sq⟩)).mono ?_
      rintro e w22 ⟨ov22, rfl, o22, B22⟩
      have R22 := Rd.of_own o22
      obtain ⟨oa22, oc22, rfl, _, _⟩ := R22.shape
      have hev22 := events_any _ _ (diffL [] B).length (diffL [] B) rfl w22 (R21.new B22) R22
      have Hev22 := Lib.hid hev22
      have HE22 := Lib.hid (HE21.out.new B22)
      clear hev22 R21 R22 o22 B22
      go_wp2_with fail
      refine Hev22.out.mono ?_
      rintro e w23 ⟨rfl, j23, rfl⟩
      have HE23 := Lib.hid (HE22.out.new (Below.drewN' (Below.refl _ w22) j23))
      go_wp2_with fail
      refine (Hdif2.out _).mono ?_
      rintro e w31 ⟨oa31, c31, he, _, B31⟩
      rw [show diffL [] [] = [] from rfl] at he
      simp only [List.length_nil] at he
      subst he
      have HE31 := Lib.hid (HE23.out.new B31)
      clear HE6 HE7 HE8 HE11 HE12 HE13 HE21 HE22 HE23 B31 Hev7 Hev12 Hev22 HQ Hdif0 Hdif1 Hdif2
      go_wp2
      go_loopw [17] (fun i wr => ∃ (k : Nat) (vs : Value) (C : List Pr), k ≤ N ∧ i = .int .i64 k ∧ QuadE w wr s r t u vs vr vt vu C A B B (.slice oa N N) N (diffL A B) ∧ Done2 A B k C) (fun i _ => N - (intOf i).toNat)
      case atStart => exact ⟨0, vs, A, Nat.zero_le _, rfl, HE31.out, Done2.start HAr.out⟩
      case round => as_aux_lemma =>
        clear HE31
        obtain ⟨k, vs, C, hk, rfl, hE, hD⟩ := hrel
        by_cases hlt : k < N
        · have hkI : (k : Int) < (N : Int) := by omega
          have hk0 : (0 : Int) ≤ (k : Int) := by omega
          obtain ⟨lb, lo, rfl⟩ := hE.rl.addr (by omega)
          by_cases h1 : k < (beyP B A).length
          · obtain ⟨p, hpk, hev⟩ := diff_get1 (A := A) h1
            obtain ⟨f0, f1, f2⟩ := hE.rl.ev hlt hev
            obtain ⟨hnew, hD2⟩ := hD.put HBr.out hpk
            have hlo : p.1 < p.2 := HBm.out p (beyP_iff.1 (List.mem_of_getElem? hpk)).1
            have hcl : C.length < 512 := by have := hD.len; omega
            have hcan : canPut 512 C p = true := by simp [canPut, hasP, hnew, hlo, hcl]
            have hputs : putS 512 C p = putP C p := by simp [putS, hcan]
            have hpe : putE 512 C p = 0 := by simp [putE, hasP, hnew, hlo, hcl]
            have hput := fun W (h : SetAt W s w.heap.size vs 512 C) (hW : w.heap.size ≤ W.heap.size) => put_any s w.heap.size 512 vs C p W hW h
            unfold PutPost at hput
            rw [hcan, hpe, hputs] at hput
            have Hput := Lib.hid hput
            clear hput hcan hpe hputs hcl hnew
            obtain ⟨p1, p2⟩ := p
            simp only [mkEv] at f0 f1 f2
            have HD2 := Lib.hid hD2
            have hlb := hE.rl.block_lt (by omega)
            have HE := Lib.hid hE
            have HD := Lib.hid hD
            clear hD2 hpk hev hE hD hlo
            go_wp2_with fail
            go_region_held3 (fun wx => wx.cell? ⟨lb, lo + k * 3 + 1, none⟩ = some (.int .i64 p1) ∧ wx.cell? ⟨lb, lo + k * 3 + 2, none⟩ = some (.int .i64 p2)) (go_keep) (fail)
            obtain ⟨W1, hW1⟩ : ∃ W1, (wr.alloc (.cells #[.int .i64 p1, .int .i64 p2] 42)).drew = W1 := ⟨_, rfl⟩
            have BW1 : Below wr.heap.size wr W1 := by rw [← hW1]; exact ((Below.refl _ wr).alloc (Nat.le_refl _) _).drew
            have x1 : Blk W1 wr.heap.size 42 [.int .i64 p1, .int .i64 p2] := by rw [← hW1]; exact (Blk.new wr 42 [_, _]).drew
            rw [hW1]
            clear hW1
            have f0 := (BW1.cell (p := ⟨lb, lo + k * 3, none⟩) hlb).trans f0
            have d0 := x1.cell 0
            have d1 := x1.cell 1
            simp only [List.getElem?_cons_zero, List.getElem?_cons_succ] at d0 d1
            have E1 := HE.out.new BW1
            go_wp2_with fail
            refine (Hput.out W1 E1.quad.ss E1.quad.bel.size).mono ?_
            rintro e w5 ⟨rfl, v5, S5, m5, q5⟩
            have HE5 := Lib.hid (E1.turnS S5 m5 q5)
            clear E1 S5 m5 q5
            go_wp2
            go_roundw
            case rel => exact ⟨k + 1, v5, _, by omega, by go_num, HE5.out, HD2.out⟩
            case measure => simp [intOf]; omega
          · obtain ⟨p, hpk, hev⟩ := diff_get2 (A := A) (B := B) (k := k) (by omega) (by rw [← HN.out]; exact hlt)
            obtain ⟨f0, f1, f2⟩ := hE.rl.ev hlt hev
            obtain ⟨hin, hD2⟩ := hD.drop HAr.out (by omega) hpk
            have hlo : True := trivial
            have hhas : hasP C p = true := by simp [hasP, hin]
            have hdrop := fun W (h : SetAt W s w.heap.size vs 512 C) => drop_any s w.heap.size 512 vs C p W h
            unfold DropPost at hdrop
            rw [hhas] at hdrop
            have Hdrop := Lib.hid hdrop
            clear hdrop hhas hin
            obtain ⟨p1, p2⟩ := p
            simp only [mkEv] at f0 f1 f2
            have HD2 := Lib.hid hD2
            have hlb := hE.rl.block_lt (by omega)
            have HE := Lib.hid hE
            have HD := Lib.hid hD
            clear hD2 hpk hev hE hD hlo
            go_wp2_with fail
            go_region_held3 (fun wx => wx.cell? ⟨lb, lo + k * 3 + 1, none⟩ = some (.int .i64 p1) ∧ wx.cell? ⟨lb, lo + k * 3 + 2, none⟩ = some (.int .i64 p2)) (go_keep) (fail)
            obtain ⟨W1, hW1⟩ : ∃ W1, (wr.alloc (.cells #[.int .i64 p1, .int .i64 p2] 42)).drew = W1 := ⟨_, rfl⟩
            have BW1 : Below wr.heap.size wr W1 := by rw [← hW1]; exact ((Below.refl _ wr).alloc (Nat.le_refl _) _).drew
            have x1 : Blk W1 wr.heap.size 42 [.int .i64 p1, .int .i64 p2] := by rw [← hW1]; exact (Blk.new wr 42 [_, _]).drew
            rw [hW1]
            clear hW1
            have f0 := (BW1.cell (p := ⟨lb, lo + k * 3, none⟩) hlb).trans f0
            have d0 := x1.cell 0
            have d1 := x1.cell 1
            simp only [List.getElem?_cons_zero, List.getElem?_cons_succ] at d0 d1
            have E1 := HE.out.new BW1
            go_wp2_with fail
            refine (Hdrop.out W1 E1.quad.ss).mono ?_
            rintro e w5 ⟨rfl, v5, S5, m5, q5⟩
            have HE5 := Lib.hid (E1.turnS S5 m5 q5)
            clear E1 S5 m5 q5
            go_wp2
            go_roundw
            case rel => exact ⟨k + 1, v5, _, by omega, by go_num, HE5.out, HD2.out⟩
            case measure => simp [intOf]; omega
        · obtain rfl : k = N := by omega
          have hkI : ¬ (k : Int) < (k : Int) := by omega
          have hCB := hD.fin HBr.out Hnl.out
          rw [hCB] at hE
          have hbey : ∀ (s t : Nat) (v v2 : Value) (W : World), SetAt W s w.heap.size v 512 B → SetAt W t w.heap.size v2 512 B → Calls Try.prog 26 #[.pointer (some ⟨s, 0, none⟩), .pointer (some ⟨t, 0, none⟩)] W fun e w' => (∃ oa, e = .returned (.slice oa 0 0)) ∧ Below W.heap.size W w' := fun s t v v2 W h1 h2 =>
            (beyond_any s w.heap.size 512 t w.heap.size 512 v v2 B B W h1 h2).mono fun e w' ⟨oa, c, he, _, hB⟩ => by
              rw [beyP_self] at he
              exact ⟨⟨oa, he⟩, hB⟩
          have hdf := fun W (h : SetAt W s w.heap.size vs 512 B) (h2 : SetAt W t w.heap.size vt 512 B) => Hdif.out W vs vt B h h2 (by omega)
          unfold AllPost at hdf
          rw [diffL_self] at hdf
          have Hbey := Lib.hid hbey
          have Hdf := Lib.hid hdf
          have HE := Lib.hid hE
          clear hbey hdf hE hD hCB
          go_wp2_with fail
          refine (Hbey.out s t _ _ _ HE.out.quad.ss HE.out.quad.st).mono ?_
          rintro e w41 ⟨⟨oa41, rfl⟩, B41⟩
          have HE41 := Lib.hid (HE.out.new B41)
          go_wp2_with fail
          refine (Hbey.out t s _ _ _ HE41.out.quad.st HE41.out.quad.ss).mono ?_
          rintro e w42 ⟨⟨oa42, rfl⟩, B42⟩
          have HE42 := Lib.hid (HE41.out.new B42)
          go_wp2_with fail
          refine (Hdf.out _ HE42.out.quad.ss HE42.out.quad.st).mono ?_
          rintro e w43 ⟨oa43, c43, he, _, B43⟩
          simp only [List.length_nil] at he
          subst he
          have HE43 := Lib.hid (HE42.out.new B43)
          go_wp2
          go_ret
          exact ⟨rfl, HE43.out.quad.bel⟩
end Go.Proofs.Ytlcmjpligaiadaa
