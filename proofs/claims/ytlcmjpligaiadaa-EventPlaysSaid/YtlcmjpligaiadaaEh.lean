/- EventPlays, walked. -/
import Derived.Test.YtlcmjpligaiadaaEg
import Derived.Test.YtlcmjpligaiadaaK
namespace Go.Proofs.Ytlcmjpligaiadaa
open Go.RowKit
/-- A step: what, and a slice of events with what it reads as. -/
structure ESt where
  what : Int
  lv : Value
  es : List Ev
def encESt (y : ESt) : List Value := [.int .i64 y.what, y.lv]
def estCells (l : List ESt) : List Value := l.flatMap encESt
def GoodESt (w : World) (y : ESt) : Prop := In64 y.what ∧ ∃ k, Rd w y.lv k 3 (evCells y.es) ∧ y.es.length = k
theorem est_get {l : List ESt} {k : Nat} {x : ESt} (h : l[k]? = some x) (r : Nat) (hr : r < 2) : (estCells l)[k * 2 + r]? = (encESt x)[r]? :=
  flat_get (f := encESt) (sz := 2) (fun _ => rfl) l k r x h hr
/-- The queue and the reference's, apart. -/
structure QR (w W : World) (q g R c f m r : Nat) (v : Value) (L L' : List Ev) : Prop where
  bel : Below w.heap.size w W
  qc : QC W q g R c f m L
  rq : RQ W r w.heap.size v R L'
  hq : w.heap.size ≤ q
  hg : w.heap.size ≤ g
  far : ∀ j, Foot r v j → w.heap.size ≤ j ∧ j ≠ q ∧ j ≠ g
section
variable {w W W' : World} {q g R c f m r : Nat} {v : Value} {L L' : List Ev}
theorem QR.new (h : QR w W q g R c f m r v L L') (hB : Below W.heap.size W W') : QR w W' q g R c f m r v L L' :=
  ⟨h.bel.trans (hB.mono h.bel.size), h.qc.new hB, h.rq.new hB, h.hq, h.hg, h.far⟩
theorem QR.turnQ {f' m' : Nat} {M : List Ev} (h : QR w W q g R c f m r v L L') (Q : QC W' q g R c f' m' M) (hM : Mod (fun j => j = q ∨ j = g) W W') : QR w W' q g R c f' m' r v M L' :=
  ⟨h.bel.trans (hM.below h.bel.size (fun j h1 h2 => by have := h.hq; have := h.hg; rcases h2 with rfl | rfl <;> omega)), Q, h.rq.mod hM (fun j h1 h2 => by have := h.far j h1; rcases h2 with rfl | rfl; exact this.2.1 rfl; exact this.2.2 rfl), h.hq, h.hg, h.far⟩
theorem QR.turnR {M : List Ev} (h : QR w W q g R c f m r v L L') (hP : RQPost r w.heap.size v R M W W') : ∃ v', QR w W' q g R c f m r v' L M := by
  obtain ⟨v', h1, h2, h3⟩ := hP
  have hql := h.qc.head.lt
  have hgl := h.qc.glt
  refine ⟨v', h.bel.trans (h2.below h.bel.size (fun j a b => by have := (h.far j b).1; omega)), h.qc.mod h2 (fun e => (h.far q e).2.1 rfl) (fun e => (h.far g e).2.2 rfl), h1, h.hq, h.hg, fun j hj => ?_⟩
  rcases h3 j hj with h4 | h4
  · exact h.far j h4
  · have := h.bel.size
    exact ⟨by omega, by omega, by omega⟩
/-- Another queue takes its place. -/
theorem QR.swap {q2 g2 c2 f2 m2 : Nat} {M : List Ev} (h : QR w W q g R c f m r v L L') (hB : Below W.heap.size W W') (Q : QC W' q2 g2 R c2 f2 m2 M) (h1 : W.heap.size ≤ q2) (h2 : W.heap.size ≤ g2) : QR w W' q2 g2 R c2 f2 m2 r v M L' := by
  have hb := h.bel.size
  exact ⟨h.bel.trans (hB.mono hb), Q, h.rq.new hB, by omega, by omega, fun j hj => by have := h.rq.lt hj; have := h.far j hj; exact ⟨this.1, by omega, by omega⟩⟩
/-- What the queue that was left does stays off. -/
theorem QR.off {S : Nat → Prop} (h : QR w W q g R c f m r v L L') (hM : Mod S W W') (h1 : ¬ S q) (h2 : ¬ S g) (h3 : ∀ j, Foot r v j → ¬ S j) (h4 : ∀ j, j < w.heap.size → ¬ S j) : QR w W' q g R c f m r v L L' :=
  ⟨h.bel.trans (hM.below h.bel.size h4), h.qc.mod hM h1 h2, h.rq.mod hM h3, h.hq, h.hg, h.far⟩
end
theorem takec_any (q g n c f m : Nat) (L : List Ev) (w : World) (h : QC w q g n c f m L) :
    Calls Try.prog 32 #[.pointer (some ⟨q, 0, none⟩)] w fun e w' => ∃ x f' m' L', e = .returned x ∧ QC w' q g n c f' m' L' ∧ Mod (fun j => j = q ∨ j = g) w w' := by
  have hl := h.len
  cases L with
  | nil =>
    obtain rfl : m = 0 := by simpa using hl.symm
    exact (takec_none q g n c f w h).mono fun e w' ⟨he, hB⟩ => ⟨_, f, 0, [], he, h.new hB, below_mod hB⟩
  | cons e L =>
    obtain ⟨m, rfl⟩ : ∃ m', m = m' + 1 := ⟨L.length, by simpa using hl.symm⟩
    exact (takec_some q g n c f m e L w h).mono fun x w' ⟨he, hQ, hM⟩ => ⟨_, _, m, L, he, hQ, hM.mono fun j _ e => .inl e⟩
theorem pushc_any (q g n c f m : Nat) (L : List Ev) (lv : Value) (k : Nat) (es : List Ev) (hl : es.length = k) (w : World) (h : QC w q g n c f m L) (hr : Rd w lv k 3 (evCells es)) (hap : k ≠ 0 → ∀ b, lv.ownBlock = some b → b ≠ q ∧ b ≠ g) :
    Calls Try.prog 31 #[.pointer (some ⟨q, 0, none⟩), lv] w fun e w' => (∃ x, e = .returned (.int .i64 x)) ∧ Mod (fun j => j = q ∨ j = g) w w' := by
  by_cases hk : k ≤ n - m
  · exact (pushc_ok q g n c f m L lv k es hl w h hr hk hap).mono fun e w' ⟨h1, _, h3⟩ => ⟨⟨_, h1⟩, h3⟩
  · exact (pushc_no q g n c f m L lv k es w h hr (by omega)).mono fun e w' ⟨h1, h2⟩ => ⟨⟨_, h1⟩, below_mod h2⟩
theorem rqpush_ok (r base n m : Nat) (v lv : Value) (k : Nat) (L es : List Ev) (hm : L.length = m) (hk : es.length = k) (w : World) (hb : base ≤ w.heap.size) (h : RQ w r base v n L) (hr : Rd w lv k 3 (evCells es)) (hfit : k ≤ n - m) :
    Calls Try.prog 51 #[.pointer (some ⟨r, 0, none⟩), lv] w fun e w' => e = .returned (.int .i64 0) ∧ RQPost r base v n (L ++ es) w w' :=
  (rqpush_any r base n m v lv k L es hm hk w hb h hr).mono fun e w' h => by
    rcases h with ⟨_, h1, h2⟩ | ⟨h1, _, _⟩
    · exact ⟨h1, h2⟩
    · exact (h1 hfit).elim
theorem rqpush_no (r base n m : Nat) (v lv : Value) (k : Nat) (L es : List Ev) (hm : L.length = m) (hk : es.length = k) (w : World) (hb : base ≤ w.heap.size) (h : RQ w r base v n L) (hr : Rd w lv k 3 (evCells es)) (hfit : ¬ k ≤ n - m) :
    Calls Try.prog 51 #[.pointer (some ⟨r, 0, none⟩), lv] w fun e w' => e = .returned (.int .i64 190) ∧ RQPost r base v n L w w' :=
  (rqpush_any r base n m v lv k L es hm hk w hb h hr).mono fun e w' h => by
    rcases h with ⟨h1, _, _⟩ | ⟨_, h1, h2⟩
    · exact (hfit h1).elim
    · exact ⟨h1, h2⟩
set_option maxRecDepth 100000 in
set_option maxHeartbeats 4000000 in
theorem eplay_bad (room : Int) (hroom : room < 1 ∨ 1024 < room) (sv : Value) (w : World) :
    Calls Try.prog 10 #[.int .i64 room, sv] w fun e w' => e = .returned (.bool true) ∧ Below w.heap.size w w' := by
  go_enter Try.func10, Try.ntmps10
  go_wp2_with fail
  refine (awake19_any w).mono ?_
  rintro e w1 ⟨rfl, B1⟩
  go_wp2_with fail
  refine (qnew_bad room w1 hroom).mono ?_
  rintro e w2 ⟨rfl, rfl⟩
  go_wp2_with fail
  refine (rqnew_bad room w1 hroom).mono ?_
  rintro e w2 ⟨rfl, rfl⟩
  go_wp2
  go_ret
  exact ⟨rfl, B1⟩
set_option maxRecDepth 100000 in
set_option maxHeartbeats 8000000 in
theorem eplay_ok (R : Nat) (hR1 : 1 ≤ R) (hR2 : R ≤ 1024) (sv : Value) (n : Nat) (ss : List ESt) (hl : ss.length = n) (w : World) (hr : Rd w sv n 2 (estCells ss)) (hg : ∀ x ∈ ss, GoodESt w x) :
    Calls Try.prog 10 #[.int .i64 (R : Int), sv] w fun e w' => e = .returned (.bool true) ∧ Below w.heap.size w w' := by
  obtain ⟨sa, sc, rfl, s1, s2⟩ := hr.shape
  have Hl := Lib.hid hl
  have Hg := Lib.hid hg
  clear hl hg
  have hRi1 : (1 : Int) ≤ (R : Int) := by omega
  have hRi2 : (R : Int) ≤ 1024 := by omega
  go_enter Try.func10, Try.ntmps10
  go_wp2_with fail
  refine (awake19_any w).mono ?_
  rintro e w1 ⟨rfl, B1⟩
  go_wp2_with fail
  refine (qnew_ok R w1 hR1 hR2).mono ?_
  rintro e w2 ⟨q, g, rfl, Q2, B2, hq, hg⟩
  go_wp2_with fail
  refine (rqnew_ok R w.heap.size w2 hR1 hR2).mono ?_
  rintro e w3 ⟨rfl, R3, B3⟩
  have Q3 : QR w w3 q g R R 0 0 w2.heap.size (.slice none 0 0) [] [] :=
    ⟨(B1.trans (B2.mono B1.size)).trans (B3.mono (by have := B1.size; have := B2.size; omega)), QC.of (Q2.new B3), R3, by have := B1.size; omega, by have := B1.size; omega, fun j hj => by
      have h1 := foot_nil hj
      have h2 := Q2.head.lt
      have h3 := Q2.glt
      have := B1.size
      have := B2.size
      exact ⟨by omega, by omega, by omega⟩⟩
  generalize w2.heap.size = r at Q3 ⊢
  clear Q2 R3 B1 B2 B3 hq hg hR1
  go_wp2
  go_loopw [6, 10] (fun p i wr => ∃ (k q g c f m : Nat) (v : Value) (L : List Ev), k ≤ n ∧ k ≤ 300 ∧ p = .pointer (some ⟨q, 0, none⟩) ∧ i = .int .i64 k ∧ QR w wr q g R c f m r v L L) (fun _ i _ => 300 - (intOf i).toNat)
  case atStart => exact ⟨0, q, g, _, _, _, _, _, Nat.zero_le _, Nat.zero_le _, rfl, rfl, Q3⟩
  case round => as_aux_lemma =>
    clear Q3
    obtain ⟨k, q, g, c, f, m, v, L, hk, hk2, rfl, rfl, hE⟩ := hrel
    rcases (show (k < n ∧ k < 300) ∨ ¬ k < n ∨ (k < n ∧ ¬ k < 300) by omega) with ⟨hlt, hlt2⟩ | hlt | ⟨hlt, hlt2⟩
    · as_aux_lemma =>
      obtain ⟨lb, lo, rfl⟩ := hr.addr (by omega)
      obtain ⟨st, hst⟩ : ∃ st, ss[k]? = some st := ⟨_, List.getElem?_eq_getElem (by rw [Hl.out]; exact hlt)⟩
      obtain ⟨⟨x1, x2⟩, ek, rr, rl⟩ := Hg.out st (List.mem_of_getElem? hst)
      have hrR := hr.new hE.bel
      have g0 := (hrR.at (i := k * 2 + 0) (by omega)).trans (est_get hst 0 (by decide))
      have g1 := (hrR.at (i := k * 2 + 1) (by omega)).trans (est_get hst 1 (by decide))
      obtain ⟨sw, lv, es⟩ := st
      simp only [encESt, List.getElem?_cons_zero, List.getElem?_cons_succ, Nat.add_zero] at g0 g1 x1 x2 rr rl
      rw [← Nat.add_assoc] at g1
      obtain ⟨la, lc, rfl, l1, l2⟩ := rr.shape
      have hkI : (k : Int) < (n : Int) := by omega
      have hkI2 : (k : Int) < 300 := by omega
      have Rl := Lib.hid rl
      have hbe := hE.bel
      have hqs := hE.qc.head.lt
      have hgs := hE.qc.glt
      have Hfs := Lib.hid (fun (j : Nat) (h : Foot r v j) => hE.rq.lt h)
      clear hst hrR rl
      go_upto_region 12 with (fail)
      obtain ⟨W1, hW1⟩ : ∃ W1, wr.alloc (.cells #[.int .i64 sw, .slice la ek lc] 81) = W1 := ⟨_, rfl⟩
      have BW : Below wr.heap.size wr W1 := by rw [← hW1]; exact (Below.refl _ wr).alloc (Nat.le_refl _) _
      have bs : Blk W1 wr.heap.size 81 [.int .i64 sw, .slice la ek lc] := by rw [← hW1]; exact Blk.new wr 81 [_, _]
      have hE1 := hE.new BW
      have rr1 := rr.new hE1.bel
      have hap : ek ≠ 0 → ∀ b, Value.ownBlock (.slice la ek lc) = some b → b ≠ q ∧ b ≠ g := fun hne b hb => by
        obtain ⟨b2, o2, rfl⟩ := rr.addr hne
        have := rr.block_lt hne
        simp [Value.ownBlock] at hb
        have := hE.hq
        have := hE.hg
        omega
      have Hap := Lib.hid hap
      rw [hW1]
      clear hW1 hE BW hap hbe
      have c0 := bs.cell 0
      have c1 := bs.cell 1
      simp only [List.getElem?_cons_zero, List.getElem?_cons_succ] at c0 c1
      go_wp2_with fail
      refine (pick29_any sw 4 _ x1 x2 (by decide) (by decide)).mono ?_
      rintro e w6 ⟨rfl, rfl⟩
      obtain ⟨u1, u2⟩ := pickN_range (c := sw) (n := 4) (by decide)
      generalize pickN sw 4 = K at *
      clear c0 g0 g1
      go_upto_block 2 with (fail)
      have hls := bs.lt
      go_cut [6, 12] from 47 to 133 (fun p is wx => is = .bool true ∧ ∃ (q g c f m : Nat) (v : Value) (L : List Ev), p = .pointer (some ⟨q, 0, none⟩) ∧ QR w wx q g R c f m r v L L)
      case first => as_aux_lemma =>
        have hlen := hE1.qc.len
        rcases (show K = 2 ∨ K = 3 ∨ K = 0 ∨ K = 1 by omega) with rfl | rfl | rfl | rfl
        · skip
          have hgd := guard56
          cases L with
          | nil =>
            obtain rfl : m = 0 := by simpa using hlen.symm
            have ht := takec_none q g R c f W1 hE1.qc
            unfold encVal at ht
            have Ht := Lib.hid ht
            have HE1 := Lib.hid hE1
            have heq := fun w => eqEv ⟨0, 0, 0⟩ ⟨0, 0, 0⟩ w
            simp only [decide_true] at heq
            clear ht hE1 hlen
            go_wp2_with fail
            refine Ht.out.mono ?_
            rintro e w7 ⟨rfl, B7⟩
            have HE7 := Lib.hid ((HE1.out.new B7).new ((Below.refl _ w7).alloc (Nat.le_refl _) (.cells #[.int .i64 0, .int .i64 0, .int .i64 0] 56)))
            go_wp2_with fail
            obtain ⟨W8, hW8⟩ : ∃ W8, w7.alloc (.cells #[.int .i64 0, .int .i64 0, .int .i64 0] 56) = W8 := ⟨_, rfl⟩
            have xa : Blk W8 w7.heap.size 56 [.int .i64 0, .int .i64 0, .int .i64 0] := by rw [← hW8]; exact Blk.new w7 56 [_, _, _]
            rw [hW8] at HE7 ⊢
            clear hW8
            have hr8 := rqtake_none r w.heap.size R v W8 HE7.out.rq
            unfold encVal at hr8
            have Hr8 := Lib.hid hr8
            clear hr8
            refine Hr8.out.mono ?_
            rintro e w9 ⟨rfl, B9⟩
            have xa9 := xa.below B9 xa.lt
            have ha9 := xa9.lt
            have a0 := xa9.cell 0
            have a1 := xa9.cell 1
            have a2 := xa9.cell 2
            simp only [List.getElem?_cons_zero, List.getElem?_cons_succ] at a0 a1 a2
            have HE9 := Lib.hid ((HE7.out.new B9).new ((Below.refl _ w9).alloc (Nat.le_refl _) (.cells #[.int .i64 0, .int .i64 0, .int .i64 0] 56)))
            go_wp2
            go_meet
            exact ⟨rfl, q, g, c, f, 0, v, [], rfl, HE9.out⟩
          | cons e L =>
            obtain ⟨m, rfl⟩ : ∃ m', m = m' + 1 := ⟨L.length, by simpa using hlen.symm⟩
            have hLm : L.length = m := by simpa using hlen
            have ht := takec_some q g R c f m e L W1 hE1.qc
            have heq := fun w => eqEv e e w
            simp only [decide_true] at heq
            have hrt := fun W v (hb : w.heap.size ≤ W.heap.size) (h : RQ W r w.heap.size v R (e :: L)) => rqtake_some r w.heap.size R m v e L hLm W hb h
            obtain ⟨ek', ea, eb⟩ := e
            unfold TakeC encVal at ht
            unfold RTakeC encVal at hrt
            have Ht := Lib.hid ht
            have Hrt := Lib.hid hrt
            have HE1 := Lib.hid hE1
            simp only at heq
            clear ht hE1 hlen hrt hLm
            go_wp2_with fail
            refine Ht.out.mono ?_
            rintro e w7 ⟨rfl, Q7, M7⟩
            have HE7 := Lib.hid ((HE1.out.turnQ Q7 (M7.mono fun j _ e => .inl e)).new ((Below.refl _ w7).alloc (Nat.le_refl _) (.cells #[.int .i64 ek', .int .i64 ea, .int .i64 eb] 56)))
            have hs7 := M7.size
            clear Q7 M7
            go_wp2_with fail
            obtain ⟨W8, hW8⟩ : ∃ W8, w7.alloc (.cells #[.int .i64 ek', .int .i64 ea, .int .i64 eb] 56) = W8 := ⟨_, rfl⟩
            have xa : Blk W8 w7.heap.size 56 [.int .i64 ek', .int .i64 ea, .int .i64 eb] := by rw [← hW8]; exact Blk.new w7 56 [_, _, _]
            have hxr : ∀ j, Foot r v j → j ≠ w7.heap.size := fun j hj => by
              have h1 := HE1.out.rq.lt hj
              omega
            rw [hW8] at HE7 ⊢
            clear hW8
            refine (Hrt.out _ _ HE7.out.bel.size HE7.out.rq).mono ?_
            rintro e w9 ⟨rfl, P9⟩
            obtain ⟨v9, hE9⟩ := HE7.out.turnR P9
            obtain ⟨_, _, m9, _⟩ := P9
            have xa9 := xa.mod m9 (fun e => hxr _ e rfl)
            have ha9 := xa9.lt
            have a0 := xa9.cell 0
            have a1 := xa9.cell 1
            have a2 := xa9.cell 2
            simp only [List.getElem?_cons_zero, List.getElem?_cons_succ] at a0 a1 a2
            have HE9 := Lib.hid (hE9.new ((Below.refl _ w9).alloc (Nat.le_refl _) (.cells #[.int .i64 ek', .int .i64 ea, .int .i64 eb] 56)))
            clear hE9 m9 hxr
            go_wp2
            go_meet
            exact ⟨rfl, q, g, c, _, m, v9, L, rfl, HE9.out⟩
        · skip
          have hcl := clone50_any q g R c f m L W1 hE1.qc
          unfold CloneP at hcl
          have Hcl := Lib.hid hcl
          have HE1 := Lib.hid hE1
          clear hcl hE1
          go_wp2_with fail
          refine Hcl.out.mono ?_
          rintro e w7 ⟨q7, g7, c7, rfl, Q7, B7, hq7, hg7⟩
          have hql := HE1.out.qc.head.lt
          have hgl := HE1.out.qc.glt
          have O7 := HE1.out.qc.new B7
          have HE7 := Lib.hid (HE1.out.swap B7 Q7 hq7 hg7)
          have hold := HE1.out.far
          have hoq := HE1.out.hq
          have hog := HE1.out.hg
          have ht := takec_any q g R c f m L w7 O7
          have Ht := Lib.hid ht
          have Hold := Lib.hid hold
          clear ht O7 Q7 B7 hold
          go_wp2_with fail
          refine Ht.out.mono ?_
          rintro e w8 ⟨x8, f8, m8, L8, rfl, O8, M8⟩
          have HE8 := Lib.hid (HE7.out.off M8 (by omega) (by omega) (fun j hj e => by have := Hold.out j hj; rcases e with rfl | rfl; exact this.2.1 rfl; exact this.2.2 rfl) (fun j h1 h2 => by rcases h2 with rfl | rfl <;> omega))
          clear M8
          have O9 := O8.new ((Below.refl _ w8).alloc (Nat.le_refl _) (.cells #[.int .i64 77, .int .i64 0, .int .i64 0] 56))
          have hb9 : Blk (w8.alloc (.cells #[.int .i64 77, .int .i64 0, .int .i64 0] 56)) w8.heap.size 56 (evCells [⟨77, 0, 0⟩]) := Blk.new w8 56 [_, _, _]
          have hq8 := O8.head.lt
          have hg8 := O8.glt
          have hp := pushc_any q g R c f8 m8 L8 _ 1 [⟨77, 0, 0⟩] rfl _ O9 (ev_blk hb9 (by simp)) (fun _ b hb => by simp [Value.ownBlock] at hb; omega)
          have HE9 := Lib.hid (HE8.out.new ((Below.refl _ w8).alloc (Nat.le_refl _) (.cells #[.int .i64 77, .int .i64 0, .int .i64 0] 56)))
          have Hp := Lib.hid hp
          clear hp O9 hb9 O8
          go_wp2_with fail
          refine Hp.out.mono ?_
          rintro e w10 ⟨⟨x10, rfl⟩, M10⟩
          have HE10 := Lib.hid (HE9.out.off M10 (by omega) (by omega) (fun j hj e => by have := Hold.out j hj; rcases e with rfl | rfl; exact this.2.1 rfl; exact this.2.2 rfl) (fun j h1 h2 => by rcases h2 with rfl | rfl <;> omega))
          clear M10
          go_wp2
          go_meet
          exact ⟨rfl, q7, g7, c7, f, m, v, L, rfl, HE10.out⟩
        all_goals
          have hmR := hE1.qc.full
          have hEd := hE1.new ((Below.refl _ W1).drew)
          by_cases hfit : ek ≤ R - m
          · have hp1 := fun W (h : QC W q g R c f m L) (hr : Rd W (.slice la ek lc) ek 3 (evCells es)) => pushc_ok q g R c f m L _ ek es Rl.out W h hr hfit Hap.out
            have hp2 := fun W (hb : w.heap.size ≤ W.heap.size) (h : RQ W r w.heap.size v R L) (hr : Rd W (.slice la ek lc) ek 3 (evCells es)) => rqpush_ok r w.heap.size R m v _ ek L es hlen Rl.out W hb h hr hfit
            unfold PushC at hp1
            have Hp1 := Lib.hid hp1
            have Hp2 := Lib.hid hp2
            have HEd := Lib.hid hEd
            have HE1 := Lib.hid hE1
            have Hrr := Lib.hid rr
            clear hp1 hp2 hEd hE1 hlen rr rr1
            go_wp2_with fail
            go_region_held3 (fun wx => wx.cell? ⟨wr.heap.size, 1, none⟩ = some (.slice la ek lc)) (go_keep)
              (first
                | (go_at_call 31; first
                    | ((with_reducible refine (Hp1.out _ HE8.out.qc (Hrr.out.new HE8.out.bel)).mono ?_)
                       rintro e w7 ⟨rfl, Q7, M7⟩
                       have HE7 := Lib.hid (HE8.out.turnQ Q7 M7)
                       have HEz := HE7
                       have z7 := z8.mod M7 (by rintro (e | e) <;> omega)
                       have k7 := z7.cell 1
                       simp only [List.getElem?_cons_zero, List.getElem?_cons_succ] at k7)
                    | ((with_reducible refine (Hp1.out _ HEd.out.qc (Hrr.out.new HEd.out.bel)).mono ?_)
                       rintro e w7 ⟨rfl, Q7, M7⟩
                       have HE7 := Lib.hid (HEd.out.turnQ Q7 M7)
                       have z7 := bs.drew.mod M7 (by rintro (e | e) <;> omega)
                       have k7 := z7.cell 1
                       simp only [List.getElem?_cons_zero, List.getElem?_cons_succ] at k7))
                | (go_at_call 51; first
                    | ((with_reducible refine (Hp2.out _ HE7.out.bel.size HE7.out.rq (Hrr.out.new HE7.out.bel)).mono ?_)
                       rintro e w8 ⟨rfl, P8⟩
                       obtain ⟨v8, hE8⟩ := HE7.out.turnR P8
                       have HE8 := Lib.hid hE8
                       have HEz := HE8
                       have z8 := z7.mod P8.choose_spec.2.1 (fun e => by have := Hfs.out _ e; omega)
                       have k8 := z8.cell 1
                       clear hE8
                       simp only [List.getElem?_cons_zero, List.getElem?_cons_succ] at k8)
                    | ((with_reducible refine (Hp2.out _ HEd.out.bel.size HEd.out.rq (Hrr.out.new HEd.out.bel)).mono ?_)
                       rintro e w8 ⟨rfl, P8⟩
                       obtain ⟨v8, hE8⟩ := HEd.out.turnR P8
                       have HE8 := Lib.hid hE8
                       have z8 := bs.drew.mod P8.choose_spec.2.1 (fun e => by have := Hfs.out _ e; omega)
                       have k8 := z8.cell 1
                       clear hE8
                       simp only [List.getElem?_cons_zero, List.getElem?_cons_succ] at k8)))
            all_goals
              go_wp2
              go_meet
              exact ⟨rfl, q, g, c, _, _, _, _, rfl, HEz.out⟩
          · have hp1 := fun W (h : QC W q g R c f m L) (hr : Rd W (.slice la ek lc) ek 3 (evCells es)) => pushc_no q g R c f m L _ ek es W h hr (by omega)
            have hp2 := fun W (hb : w.heap.size ≤ W.heap.size) (h : RQ W r w.heap.size v R L) (hr : Rd W (.slice la ek lc) ek 3 (evCells es)) => rqpush_no r w.heap.size R m v _ ek L es hlen Rl.out W hb h hr hfit
            have Hp1 := Lib.hid hp1
            have Hp2 := Lib.hid hp2
            have HEd := Lib.hid hEd
            have HE1 := Lib.hid hE1
            have Hrr := Lib.hid rr
            clear hp1 hp2 hEd hE1 hlen rr rr1
            go_wp2_with fail
            go_region_held3 (fun wx => wx.cell? ⟨wr.heap.size, 1, none⟩ = some (.slice la ek lc)) (go_keep)
              (first
                | (go_at_call 31; first
                    | ((with_reducible refine (Hp1.out _ HE8.out.qc (Hrr.out.new HE8.out.bel)).mono ?_)
                       rintro e w7 ⟨rfl, B7⟩
                       have HE7 := Lib.hid (HE8.out.new B7)
                       have HEz := HE7
                       have z7 := z8.below B7 z8.lt
                       have k7 := z7.cell 1
                       simp only [List.getElem?_cons_zero, List.getElem?_cons_succ] at k7)
                    | ((with_reducible refine (Hp1.out _ HEd.out.qc (Hrr.out.new HEd.out.bel)).mono ?_)
                       rintro e w7 ⟨rfl, B7⟩
                       have HE7 := Lib.hid (HEd.out.new B7)
                       have z7 := bs.drew.below B7 bs.drew.lt
                       have k7 := z7.cell 1
                       simp only [List.getElem?_cons_zero, List.getElem?_cons_succ] at k7))
                | (go_at_call 51; first
                    | ((with_reducible refine (Hp2.out _ HE7.out.bel.size HE7.out.rq (Hrr.out.new HE7.out.bel)).mono ?_)
                       rintro e w8 ⟨rfl, P8⟩
                       obtain ⟨v8, hE8⟩ := HE7.out.turnR P8
                       have HE8 := Lib.hid hE8
                       have HEz := HE8
                       have z8 := z7.mod P8.choose_spec.2.1 (fun e => by have := Hfs.out _ e; omega)
                       have k8 := z8.cell 1
                       clear hE8
                       simp only [List.getElem?_cons_zero, List.getElem?_cons_succ] at k8)
                    | ((with_reducible refine (Hp2.out _ HEd.out.bel.size HEd.out.rq (Hrr.out.new HEd.out.bel)).mono ?_)
                       rintro e w8 ⟨rfl, P8⟩
                       obtain ⟨v8, hE8⟩ := HEd.out.turnR P8
                       have HE8 := Lib.hid hE8
                       have z8 := bs.drew.mod P8.choose_spec.2.1 (fun e => by have := Hfs.out _ e; omega)
                       have k8 := z8.cell 1
                       clear hE8
                       simp only [List.getElem?_cons_zero, List.getElem?_cons_succ] at k8)))
            all_goals
              go_wp2
              go_meet
              exact ⟨rfl, q, g, c, _, _, _, _, rfl, HEz.out⟩
      case rest => as_aux_lemma =>
        clear hE1 rr rr1 bs c1 Hap Rl Hfs hqs hgs hls
        obtain ⟨rfl, q, g, c, f, m, v, L, rfl, hE⟩ := hcut
        have hlen := hE.qc.len
        have hall := qallc_any q g R c f m L _ hE.qc
        unfold AllPost at hall
        rw [hlen] at hall
        have hmR := hE.qc.full
        have hfr := fun W (h : QC W q g R c f m L) => freec_any q g R c f m L W h
        have hfr2 := fun W (h : RQ W r w.heap.size v R L) => rqfree_any r w.heap.size R m v L hlen W h
        have hral := fun W (h : RQ W r w.heap.size v R L) => rqall_any r w.heap.size R m v L hlen W h
        obtain ⟨x, hx⟩ : ∃ x : Int, x = ((R - m : Nat) : Int) := ⟨_, rfl⟩
        rw [← hx] at hfr hfr2
        have hxx : (x == x) = true := by simp
        have Hall := Lib.hid hall
        have Hfr := Lib.hid hfr
        have Hfr2 := Lib.hid hfr2
        have Hral := Lib.hid hral
        have HE := Lib.hid hE
        have Hlen := Lib.hid hlen
        have hm4 : m ≤ 1024 := by omega
        clear hall hfr hfr2 hral hE hlen hx
        go_wp2_with fail
        refine Hall.out.mono ?_
        rintro e w7 ⟨oa, cc, rfl, o7, B7⟩
        have HE7 := Lib.hid (HE.out.new B7)
        have hlo : ∀ g2, Value.ownBlock (.slice oa m cc) = some g2 → (g2 ≠ q ∧ g2 ≠ g ∧ ∀ j, Foot r v j → j ≠ g2) ∧ w.heap.size ≤ g2 := fun g2 h => by
          have h1 := ownBlock_ge o7 h
          have h2 := HE.out.qc.head.lt
          have h3 := HE.out.qc.glt
          have h4 := HE.out.bel.size
          exact ⟨⟨by omega, by omega, fun j hj => by have := HE.out.rq.lt hj; omega⟩, by omega⟩
        have Hlo := Lib.hid hlo
        obtain ⟨ao, cap, ev, _, _, D7⟩ := own_clip o7
        obtain ⟨rfl, -, -⟩ := Value.slice.inj ev
        have HD7 := Lib.hid D7.1
        have Ho7 := Lib.hid o7
        clear hlo ev D7 o7 B7 Hall
        go_wp2_with fail
        refine (Hfr.out _ HE7.out.qc).mono ?_
        rintro e w8 ⟨rfl, d8, rfl⟩
        have BD8 : Below w7.heap.size w7 (w7.drewN d8) := Below.drewN' (Below.refl _ w7) d8
        have HE8 := Lib.hid (HE7.out.new BD8)
        go_wp2_with fail
        refine (Hfr2.out _ HE8.out.rq).mono ?_
        rintro e w9 ⟨rfl, d9, rfl⟩
        generalize hW9 : World.drewN (World.drewN w7 d8) d9 = W9
        have BW9 : Below w7.heap.size w7 W9 := by rw [← hW9]; exact Below.drewN' (Below.drewN' (Below.refl _ w7) d8) d9
        clear hW9
        have HE9 := Lib.hid (HE7.out.new BW9)
        have hD9 := Lib.hid (HD7.out.new BW9)
        have Ho9 := Lib.hid (own_new Ho7.out BW9)
        go_wp2_with fail
        refine (Hral.out _ HE9.out.rq).mono ?_
        rintro e w10 ⟨ov, rfl, R10, B10⟩
        obtain ⟨va, vc, rfl, _, _⟩ := R10.shape
        have HE10 := Lib.hid (HE9.out.new B10)
        have Ho10 := Lib.hid (own_new Ho9.out B10)
        have hev := events_any _ _ m L Hlen.out w10 (hD9.out.new B10) R10
        have Hev := Lib.hid hev
        clear hev R10 B10
        go_wp2_with fail
        refine Hev.out.mono ?_
        rintro e w11 ⟨rfl, d11, rfl⟩
        have BD11 : Below w10.heap.size w10 (w10.drewN d11) := Below.drewN' (Below.refl _ w10) d11
        have HE11 := Lib.hid (HE10.out.new BD11)
        have Ho11 := Lib.hid (own_new Ho10.out BD11)
        generalize w10.drewN d11 = W11 at HE11 Ho11 ⊢
        clear HE HE7 HE8 HE9 HE10 Ho7 Ho9 Ho10 HD7 hD9 Hev Hfr Hfr2 Hral BD8 BW9 BD11
        rcases Nat.eq_zero_or_pos m with h0 | h0
        · subst h0
          go_wp2
          go_loopw [19] (fun i wz => i = .int .i64 0 ∧ ∃ d, wz = W11.drewN d) (fun _ _ => 0)
          case atStart => exact ⟨rfl, 0, rfl⟩
          case round =>
            obtain ⟨rfl, d, rfl⟩ := hrel
            have HEy := Lib.hid (HE11.out.new (Below.drewN' (Below.refl _ _) d))
            go_wp2
            exact ⟨⟨k + 1, q, g, c, f, 0, v, L, by omega, by omega, rfl, by simp, HEy.out⟩, by simp [intOf]; omega⟩
        · obtain ⟨g2, cg, hg⟩ := own_shape Ho11.out (by omega)
          simp only [Value.slice.injEq, true_and] at hg
          obtain ⟨rfl, rfl⟩ := hg
          obtain ⟨E, hcur, hn1, hn2, hgb⟩ := own_cur56 Ho11.out
          have hlo2 := Hlo.out g2 rfl
          have Hlo2 := Lib.hid hlo2
          have hll := ev_len L
          have hrow : m * 3 ≤ (evCells L ++ E).length := by rw [List.length_append, hll, Hlen.out]; omega
          obtain ⟨row, hrw⟩ : ∃ row, row = evCells L ++ E := ⟨_, rfl⟩
          rw [← hrw] at hcur hrow
          clear hrw hn1 hn2 hgb Hlo hlo2 hll Ho11
          go_wp2
          go_loopw [19] (fun i wz => ∃ (j : Nat) (row : List Value), j ≤ m ∧ i = .int .i64 j ∧ Blk wz g2 56 row ∧ m * 3 ≤ row.length ∧ Mod (fun j => j = g2) W11 wz) (fun i _ => m - (intOf i).toNat)
          case atStart => exact ⟨0, row, Nat.zero_le _, rfl, hcur, hrow, Mod.refl _ _⟩
          case round =>
            clear hcur hrow row
            obtain ⟨j, row, hj, rfl, hcur, hrow, hM⟩ := hrel
            by_cases hlt3 : j < m
            · have hkI3 : (j : Int) < (m : Int) := by omega
              have x0 := hcur.cell (j * 3)
              rw [List.getElem?_eq_getElem (by omega)] at x0
              have x1 := hcur.frozen (j * 3)
              go_wp2
              go_roundw
              case rel => exact ⟨j + 1, row.set (j * 3) (.int .i64 (-9)), by omega, by go_num, hcur.set _ _, by rw [List.length_set]; exact hrow, hM.setCell (p := ⟨g2, j * 3, none⟩) (fun _ => rfl) _⟩
              case measure => simp [intOf]; omega
            · obtain rfl : j = m := by omega
              have hkI3 : ¬ (j : Int) < (j : Int) := by omega
              have HEy := Lib.hid (HE11.out.off hM (fun e => Hlo2.out.1.1 e.symm) (fun e => Hlo2.out.1.2.1 e.symm) (fun i hi e => Hlo2.out.1.2.2 i hi e) (fun i hi e => by have := Hlo2.out.2; omega))
              go_wp2
              exact ⟨⟨k + 1, q, g, c, f, j, v, L, by omega, by omega, rfl, by simp, HEy.out⟩, by simp [intOf]; omega⟩
    all_goals
      have hlen := hE.qc.len
      have hall := qallc_any q g R c f m L _ hE.qc
      unfold AllPost at hall
      rw [hlen] at hall
      have hral := fun W (h : RQ W r w.heap.size v R L) => rqall_any r w.heap.size R m v L hlen W h
      have Hall := Lib.hid hall
      have Hral := Lib.hid hral
      have HE := Lib.hid hE
      have Hlen := Lib.hid hlen
      clear hall hral hE hlen hr Hg
      go_wp2_with fail
      refine Hall.out.mono ?_
      rintro e w7 ⟨oa, cc, rfl, o7, B7⟩
      obtain ⟨ao, cap, ev, _, _, D7⟩ := own_clip o7
      obtain ⟨rfl, -, -⟩ := Value.slice.inj ev
      have HE7 := Lib.hid (HE.out.new B7)
      have HD7 := Lib.hid D7.1
      clear ev D7 o7 B7
      go_wp2_with fail
      refine (Hral.out _ HE7.out.rq).mono ?_
      rintro e w10 ⟨ov, rfl, R10, B10⟩
      obtain ⟨va, vc, rfl, _, _⟩ := R10.shape
      have HE10 := Lib.hid (HE7.out.new B10)
      have hev := events_any _ _ m L Hlen.out w10 (HD7.out.new B10) R10
      have Hev := Lib.hid hev
      clear hev R10 B10
      go_wp2_with fail
      refine Hev.out.mono ?_
      rintro e w11 ⟨rfl, d11, rfl⟩
      go_wp2
      go_ret
      exact ⟨rfl, (HE10.out.new (Below.drewN' (Below.refl _ w10) d11)).bel⟩
end Go.Proofs.Ytlcmjpligaiadaa
