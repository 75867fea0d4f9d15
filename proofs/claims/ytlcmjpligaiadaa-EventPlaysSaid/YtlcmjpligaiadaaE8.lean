/- EventOnce, walked. -/
import Derived.Test.YtlcmjpligaiadaaE6
import Derived.Test.YtlcmjpligaiadaaOf
namespace Go.Proofs.Ytlcmjpligaiadaa
open Go.RowKit
/-- A row of the argument: a slice value and what it reads as. -/
abbrev Row := Value × List Ev
def rowCells (l : List Row) : List Value := l.flatMap fun r => [r.1]
def RowOk (w : World) (r : Row) : Prop := ∃ k, Rd w r.1 k 3 (evCells r.2) ∧ r.2.length = k ∧ k * 24 ≤ 140737488351232
theorem row_get {l : List Row} {k : Nat} {r : Row} (h : l[k]? = some r) : (rowCells l)[k * 1]? = some r.1 := by
  have := flat_get (f := fun r : Row => [r.1]) (sz := 1) (fun _ => rfl) l k 0 r h (by decide)
  exact this.trans rfl
/-- The queue beside the list of what is there. -/
structure Both (w W : World) (q g R f m : Nat) (tv : Value) (L : List Ev) : Prop where
  bel : Below w.heap.size w W
  qat : QAt W q g R f m L
  off : Off W w.heap.size 56 3 tv L.length (evCells L)
  hq : w.heap.size ≤ q
  hg : w.heap.size ≤ g
  apart : ∀ b, tv.ownBlock = some b → b ≠ q ∧ b ≠ g
theorem Both.new {w W W' : World} {q g R f m : Nat} {tv : Value} {L : List Ev} (h : Both w W q g R f m tv L) (hB : Below W.heap.size W W') : Both w W' q g R f m tv L :=
  ⟨h.bel.trans (hB.mono h.bel.size), h.qat.new hB, h.off.new hB, h.hq, h.hg, h.apart⟩
def PushAny (q g n f m : Nat) (L es : List Ev) (k : Nat) (w : World) (e : Ending) (w' : World) : Prop :=
  (k ≤ n - m ∧ e = .returned (.int .i64 0) ∧ QAt w' q g n f (m + es.length) (L ++ es) ∨ ¬ k ≤ n - m ∧ e = .returned (.int .i64 190) ∧ QAt w' q g n f m L) ∧ Mod (fun j => j = q ∨ j = g) w w'
theorem push_any (q g n f m : Nat) (L : List Ev) (lv : Value) (k : Nat) (es : List Ev) (hl : es.length = k) (w : World) (h : QAt w q g n f m L) (hr : Rd w lv k 3 (evCells es)) (hap : k ≠ 0 → ∀ b, lv.ownBlock = some b → b ≠ q ∧ b ≠ g) :
    Calls Try.prog 31 #[.pointer (some ⟨q, 0, none⟩), lv] w (PushAny q g n f m L es k w) := by
  by_cases hk : k ≤ n - m
  · exact (push_ok q g n f m L lv k es hl w h hr hk hap).mono fun e w' ⟨h1, h2, h3⟩ => ⟨.inl ⟨hk, h1, h2⟩, h3⟩
  · exact (push_no q g n f m L lv k es w h hr (by omega)).mono fun e w' ⟨h1, h2⟩ => ⟨.inr ⟨hk, h1, h.new h2⟩, below_mod h2⟩
set_option maxRecDepth 100000 in
set_option maxHeartbeats 8000000 in
theorem once_any (room : Int) (lv tkv : Value) (N tn : Nat) (ls : List Row) (tks : List Int) (hN : ls.length = N) (htn : tks.length = tn) (w : World) (hr1 : -9223372036854775808 ≤ room) (hr2 : room ≤ 9223372036854775807)
    (hr : Rd w lv N 1 (rowCells ls)) (hrow : ∀ r ∈ ls, RowOk w r) (ht : Rd w tkv tn 1 (ints tks)) (htk : ∀ t ∈ tks, In64 t) (htb : tn * 8 ≤ 140737488351232) :
    Calls Try.prog 7 #[.int .i64 room, lv, tkv] w fun e w' => e = .returned (.bool true) ∧ Below w.heap.size w w' := by
  obtain ⟨la, lc, rfl, l1, l2⟩ := hr.shape
  obtain ⟨ta, tc, rfl, t1, t2⟩ := ht.shape
  have HN := Lib.hid hN
  have Htn := Lib.hid htn
  have Hrow := Lib.hid hrow
  have Htk := Lib.hid htk
  clear hN htn hrow htk
  obtain ⟨u1, u2⟩ := pickN_range (c := room) (n := 40) (by decide)
  have hpk := fun W => pick29_any room 40 W hr1 hr2 (by decide) (by decide)
  obtain ⟨p, hp⟩ : ∃ p : Nat, pickN room 40 = (p : Int) := ⟨(pickN room 40).toNat, by omega⟩
  rw [hp] at u1 u2 hpk
  have Hpk := Lib.hid hpk
  obtain ⟨R, hR⟩ : ∃ R : Nat, R = 1 + p := ⟨_, rfl⟩
  have hRI : (1 : Int) + (p : Int) = (R : Int) := by omega
  have HRI := Lib.hid hRI
  have hR1 : 1 ≤ R := by omega
  have hR2 : R ≤ 40 := by omega
  clear hpk hp hRI hR
  go_enter Try.func7, Try.ntmps7
  go_wp2_with fail
  refine (awake19_any w).mono ?_
  rintro e w1 ⟨rfl, B1⟩
  go_wp2_with fail
  refine (Hpk.out w1).mono ?_
  rintro e w2 ⟨rfl, rfl⟩
  go_wp2_with fail
  rw [HRI.out]
  refine (qnew_ok R w1 hR1 (by omega)).mono ?_
  rintro e w2 ⟨q, g, rfl, Q2, B2, hq, hg⟩
  have hs1 := B1.size
  have hB2 : Both w w2 q g R 0 0 (.slice none 0 0) [] := ⟨B1.trans (B2.mono hs1), Q2, Off.nil _ _ _ _, by omega, by omega, by simp [Value.ownBlock]⟩
  clear Q2 B2 B1 hq hg hs1
  have hRi : (R : Int) ≤ 40 := by omega
  go_wp2
  go_loopw [10, 11, 15] (fun t i _ wr => ∃ (k f m : Nat) (tv : Value) (L : List Ev), k ≤ N ∧ k ≤ 100 ∧ i = .int .i64 k ∧ tv = t ∧ Both w wr q g R f m tv L) (fun _ i _ _ => 100 - (intOf i).toNat)
  case atStart => exact ⟨0, _, _, _, _, Nat.zero_le _, Nat.zero_le _, rfl, rfl, hB2⟩
  case round => as_aux_lemma =>
    clear hB2
    obtain ⟨k, f, m, tv, L, hk, hk2, rfl, rfl, hE⟩ := hrel
    have hLm := hE.qat.len
    have hmR := hE.qat.full
    obtain ⟨tsa, tsc, rfl, ts1, ts2⟩ := hE.off.rd.shape
    rcases (show (k < N ∧ k < 100) ∨ ¬ k < N ∨ (k < N ∧ ¬ k < 100) by omega) with ⟨hlt, hlt2⟩ | hlt | ⟨hlt, hlt2⟩
    · obtain ⟨lb, lo, rfl⟩ := hr.addr (by omega)
      obtain ⟨r, hrk⟩ : ∃ r, ls[k]? = some r := ⟨_, List.getElem?_eq_getElem (by rw [HN.out]; exact hlt)⟩
      obtain ⟨ek, rr, rl, rb⟩ := Hrow.out r (List.mem_of_getElem? hrk)
      have hrR := hr.new hE.bel
      have g0 := (hrR.at (i := k * 1) (by omega)).trans (row_get hrk)
      rw [Nat.mul_one] at g0
      obtain ⟨rv, es⟩ := r
      simp only at rr rl g0
      obtain ⟨ra, rc, rfl, r1, r2⟩ := rr.shape
      have rrR := rr.new hE.bel
      have hltI : (k : Int) < 100 := by omega
      have hkN : (k : Int) < (N : Int) := by omega
      have hap : ek ≠ 0 → ∀ b, Value.ownBlock (.slice ra ek rc) = some b → b ≠ q ∧ b ≠ g := fun hne b hb => by
        obtain ⟨b2, o2, rfl⟩ := rr.addr hne
        have := rr.block_lt hne
        simp [Value.ownBlock] at hb
        have := hE.hq
        have := hE.hg
        omega
      have hpush := push_any q g R f m L _ ek es rl wr hE.qat rrR hap
      have Hap := Lib.hid hap
      have Hpush := Lib.hid hpush
      have Rl := Lib.hid rl
      have hbl := hr.block_lt (by omega)
      clear hap hpush rl hrk
      go_wp2_with fail
      refine Hpush.out.mono ?_
      rintro e w3 ⟨hor, M3⟩
      have B3 := hE.bel.trans (M3.below hE.bel.size (fun j h1 h2 => by have := hE.hq; have := hE.hg; rcases h2 with rfl | rfl <;> omega))
      have hrR3 := hr.new B3
      have rr3 := rr.new B3
      have g3 := ((B3.cell (p := ⟨lb, lo + k, none⟩) hbl).trans ((hE.bel.cell (p := ⟨lb, lo + k, none⟩) hbl).symm.trans g0))
      have off3 := hE.off.mod M3 (fun b hb hs => by have := hE.apart b hb; rcases hs with rfl | rfl; exact this.1 rfl; exact this.2 rfl)
      rw [hLm] at off3
      have hek : (ek : Int) ≤ 5864062014806 := by omega
      have hmI : (m : Int) ≤ 40 := by omega
      obtain ⟨ev, he, hx, hQc⟩ : ∃ (ev : Int), e = .returned (.int .i64 ev) ∧ ((ev == 0) == decide ((m : Int) + (ek : Int) ≤ (R : Int))) = true ∧ (((ev == 0) = true ∧ QAt w3 q g R f (m + es.length) (L ++ es)) ∨ ((ev == 0) = false ∧ QAt w3 q g R f m L)) := by
        rcases hor with ⟨h1, h2, h3⟩ | ⟨h1, h2, h3⟩
        · refine ⟨0, h2, ?_, .inl ⟨rfl, h3⟩⟩
          rw [decide_eq_true (by omega)]; rfl
        · refine ⟨190, h2, ?_, .inr ⟨rfl, h3⟩⟩
          rw [decide_eq_false (by omega)]; rfl
      clear hor
      subst he
      have HQc := Lib.hid hQc
      have HEo := Lib.hid hE
      clear hQc g0 hE hrR rrR hrR3
      go_upto_if 66 with (fail)
      have Hx := Lib.hid hx
      clear hx
      go_cut [10] from 36 to 111 (fun t wx => ∃ (m : Nat) (tv : Value) (L : List Ev), tv = t ∧ Both w wx q g R f m tv L)
      case first => as_aux_lemma =>
        obtain ⟨i0, hi, hz0, hz1, hz2⟩ := info_parts info56
        rcases HQc.out with ⟨hc, hQ⟩ | ⟨hc, hQ⟩
        · clear HQc Hx
          have HQ := Lib.hid hQ
          have hH := B3.size
          clear hQ
          go_wp2_with (at_builtin; refine wpList_append_off rfl _ _ 53 rfl w.heap.size 56 i0 (.agg #[.int .i64 0, .int .i64 0, .int .i64 0]) 3 24 Try.underlying53 hi hz0 hz1 hz2 rfl (by decide) _ _ _ rfl off3 _ ek (evCells es) rfl rr3 (ev_one _) (by unfold maxLen; omega) (by omega) hH ?_; intro tv2 w4 o4 m4 q4)
          have hQ4 := HQ.out.mod m4 (fun e => ((HEo.out.apart q (by rw [hLm]; exact e)).1 rfl)) (fun e => ((HEo.out.apart g (by rw [hLm]; exact e)).2 rfl))
          have hlen4 : (L ++ es).length = m + ek := by rw [List.length_append, hLm, Rl.out]
          have hb4 : Below w.heap.size w w4 := B3.trans (m4.below hH (fun j h1 h2 => by have := (HEo.out.off.lt (b := j) (by rw [hLm]; exact h2)).2; omega))
          have hq3 := HQ.out.head.lt
          have hg3 := HQ.out.glt
          have hap4 : ∀ b, tv2.ownBlock = some b → b ≠ q ∧ b ≠ g := fun b hb => by
            rcases q4 with h | h
            · exact HEo.out.apart b (by rw [hLm]; exact h.symm.trans hb)
            · rw [h] at hb
              simp at hb
              omega
          have hoff4 : Off w4 w.heap.size 56 3 tv2 (L ++ es).length (evCells (L ++ es)) := by rw [hlen4, ev_append]; exact o4
          go_meet
          exact ⟨_, _, _, rfl, hb4, hQ4, hoff4, HEo.out.hq, HEo.out.hg, hap4⟩
        · clear HQc Hx
          have HQ := Lib.hid hQ
          clear hQ
          go_wp2
          go_meet
          exact ⟨m, _, L, rfl, B3, HQ.out, by rw [hLm]; exact off3, HEo.out.hq, HEo.out.hg, fun b hb => HEo.out.apart b (by rw [hLm]; exact hb)⟩
      case rest =>
        clear HQc HEo Hx off3 B3 rr rr3 g3 M3 Hap Hpush Rl hLm hmR hmI hek
        obtain ⟨m, tv, L, rfl, hE⟩ := hcut
        have htR := ht.new hE.bel
        have htnI : (tn : Int) ≤ 17592186043904 := by omega
        go_upto_if 75 with (fail)
        go_cut [13] from 36 to 111 (fun v wx => ∃ x : Nat, v = .int .i64 x ∧ x < 6 ∧ wx = wc)
        case first => as_aux_lemma =>
          by_cases h0 : 0 < tn
          · have hd : decide (0 < tn) = true := by simp [h0]
            obtain ⟨tb, to', rfl⟩ := ht.addr (by omega)
            obtain ⟨x, hx⟩ : ∃ x, x = k % tn := ⟨_, rfl⟩
            have hxl : x < tn := by rw [hx]; exact Nat.mod_lt _ h0
            obtain ⟨t, htt⟩ : ∃ t, tks[x]? = some t := ⟨_, List.getElem?_eq_getElem (by rw [Htn.out]; exact hxl)⟩
            have hin := Htk.out t (List.mem_of_getElem? htt)
            have f0 := htR.int Htn.out hxl
            rw [htt] at f0
            simp only [Option.getD_some] at f0
            have hmod : (k : Int) % (tn : Int) = (x : Int) := by rw [hx]; rfl
            have hxI : (x : Int) < (tn : Int) := by omega
            have ht0 : ((tn : Int) == 0) = false := by simp; omega
            have ht1 : ¬ (tn : Int) = 0 := by omega
            have h0I : (0 : Int) < (tn : Int) := by omega
            obtain ⟨v1, v2⟩ := pickN_range (c := t) (n := 6) (by decide)
            have hpk := fun W => pick29_any t 6 W hin.1 hin.2 (by decide) (by decide)
            obtain ⟨y, hy⟩ : ∃ y : Nat, pickN t 6 = (y : Int) := ⟨(pickN t 6).toNat, by omega⟩
            rw [hy] at v2 hpk
            have Hpk := Lib.hid hpk
            clear hpk hy hx htt
            go_wp2_with fail
            refine (Hpk.out _).mono ?_
            rintro e w4 ⟨rfl, rfl⟩
            go_wp2
            go_meet
            exact ⟨y, rfl, by omega, rfl⟩
          · have hd : decide (0 < tn) = false := by simp [h0]
            go_wp2
            go_meet
            exact ⟨0, rfl, by decide, rfl⟩
        case rest =>
          clear htR
          obtain ⟨x, rfl, hx6, rfl⟩ := hcut
          go_wp2
          go_loopw [10, 14, 15, 16] (fun t i _ _ wr => ∃ (j f m : Nat) (tv : Value) (L : List Ev), j ≤ x ∧ i = .int .i64 j ∧ tv = t ∧ Both w wr q g R f m tv L) (fun _ i _ _ _ => x - (intOf i).toNat)
          case atStart => exact ⟨0, f, m, tv, L, Nat.zero_le _, rfl, rfl, hE⟩
          case round => as_aux_lemma =>
            clear hE
            obtain ⟨j, f, m, tv, L, hj, rfl, rfl, hE⟩ := hrel
            by_cases hlt3 : j < x
            · have hjI : (j : Int) < (x : Int) := by omega
              have hlen := hE.qat.len
              cases L with
              | nil =>
                obtain rfl : m = 0 := by simpa using hlen.symm
                clear hlen
                obtain ⟨va, vc, rfl, _, _⟩ := hE.off.rd.shape
                have htake := take_none q g R f _ hE.qat
                unfold encVal at htake
                go_wp2_with fail
                refine htake.mono ?_
                rintro e w5 ⟨rfl, B5⟩
                have hE5 := hE.new B5
                have hE6 := hE5.new ((Below.refl _ w5).alloc (Nat.le_refl _) (.cells #[.int .i64 0, .int .i64 0, .int .i64 0] 56))
                have HE6 := Lib.hid hE6
                clear hE hE5 hE6 htake
                go_wp2
                go_quiet (fail)
                go_wp2
                go_roundw
                case rel => exact ⟨j + 1, f, 0, _, [], by omega, by go_num, rfl, HE6.out.new (Below.drewN' (Below.refl _ _) _)⟩
                case measure => simp [intOf]; omega
              | cons e L =>
                obtain ⟨m, rfl⟩ : ∃ m', m = m' + 1 := ⟨L.length, by simpa using hlen.symm⟩
                have hLm : L.length = m := by simpa using hlen
                have htake := take_some q g R f m e L _ hE.qat
                obtain ⟨tb, off, cap, rfl, hc1, hc2⟩ := hE.off.shape (by simp)
                have HE := Lib.hid hE
                obtain ⟨ek, ea, eb⟩ := e
                unfold TakePost encVal at htake
                clear hE hlen
                have hcap : cap ≤ 9223372036854775807 := by unfold maxLen at hc2; omega
                go_wp2_with fail
                refine htake.mono ?_
                rintro e w5 ⟨rfl, Q5, M5⟩
                have hap := HE.out.apart tb rfl
                have off5 := HE.out.off.mod M5 (fun b hb e => (HE.out.apart b hb).1 e)
                go_wp2_with fail
                obtain ⟨W6, hW6⟩ : ∃ W6, w5.alloc (.cells #[.int .i64 ek, .int .i64 ea, .int .i64 eb] 56) = W6 := ⟨_, rfl⟩
                have B6 : Below w5.heap.size w5 W6 := by rw [← hW6]; exact (Below.refl _ w5).alloc (Nat.le_refl _) _
                have x6 : Blk W6 w5.heap.size 56 [.int .i64 ek, .int .i64 ea, .int .i64 eb] := by rw [← hW6]; exact Blk.new w5 56 [_, _, _]
                rw [hW6]
                clear hW6
                have d0 := x6.cell 0
                have d1 := x6.cell 1
                have d2 := x6.cell 2
                simp only [List.getElem?_cons_zero, List.getElem?_cons_succ] at d0 d1 d2
                have off6 := off5.new B6
                obtain ⟨f0, f1, f2⟩ := off6.rd.ev (i := 0) (e := ⟨ek, ea, eb⟩) (by simp) rfl
                simp only [Nat.zero_mul, Nat.add_zero] at f0 f1 f2
                have Q6 := Q5.new B6
                have hb0 := HE.out.bel
                have B06 : Below w.heap.size w W6 := (hb0.trans (M5.below hb0.size (fun j h1 h2 => by have := HE.out.hq; omega))).trans (B6.mono (by have := hb0.size; have := M5.size; omega))
                have hne := fun w => neEv ⟨ek, ea, eb⟩ ⟨ek, ea, eb⟩ w
                simp only [decide_true, Bool.not_true] at hne
                have hgd := guard56
                rw [List.length_cons, hLm] at hc1
                have off6' : Off W6 w.heap.size 56 3 (.slice (some ⟨tb, off, none⟩) (m + 1) cap) (m + 1) ([.int .i64 ek, .int .i64 ea, .int .i64 eb] ++ evCells L) := by
                  rw [← hLm]; exact off6
                have Off6 := Lib.hid off6'
                have hm1 : (1 : Int) ≤ (m : Int) + 1 := by omega
                have hm2 : (m : Int) + 1 ≤ (cap : Int) := by omega
                have hm3 : (0 : Int) < (m : Int) + 1 := by omega
                have Hap := Lib.hid hap
                have HLm := Lib.hid hLm
                have hgt : decide (0 < m + 1) = true := by simp
                clear off5 off6 off6' hap htake
                by_cases hcp : cap = 1
                · obtain rfl : m = 0 := by omega
                  subst hcp
                  obtain rfl : L = [] := List.eq_nil_of_length_eq_zero HLm.out
                  have hl := Lib.hid (Off.last (xs := [.int .i64 ek, .int .i64 ea, .int .i64 eb]) (by exact Off6.out))
                  clear hLm
                  go_wp2
                  go_quiet (fail)
                  go_wp2
                  go_roundw
                  case rel => exact ⟨j + 1, _, 0, _, [], by omega, by go_num, rfl, (B06.trans (Below.drewN' (Below.refl _ _) _)), Q6.new (Below.drewN' (Below.refl _ _) _), hl.out.new (Below.drewN' (Below.refl _ _) _), HE.out.hq, HE.out.hg, fun b hb => by simp [Value.ownBlock] at hb; subst hb; exact Hap.out⟩
                  case measure => simp [intOf]; omega
                · have hl := Lib.hid (Off.tail (ys := [.int .i64 ek, .int .i64 ea, .int .i64 eb]) Off6.out rfl)
                  have hcp2 : ¬ cap = 0 := by omega
                  go_wp2
                  go_quiet (fail)
                  go_wp2
                  go_roundw
                  case rel => exact ⟨j + 1, _, m, _, L, by omega, by go_num, rfl, (B06.trans (Below.drewN' (Below.refl _ _) _)), Q6.new (Below.drewN' (Below.refl _ _) _), by rw [HLm.out]; exact hl.out.new (Below.drewN' (Below.refl _ _) _), HE.out.hq, HE.out.hg, fun b hb => by simp [Value.ownBlock] at hb; subst hb; exact Hap.out⟩
                  case measure => simp [intOf]; omega
            · obtain rfl : j = x := by omega
              have hjI : ¬ (j : Int) < (j : Int) := by omega
              go_wp2
              exact ⟨⟨k + 1, f, m, tv, L, by omega, by omega, by simp, rfl, hE⟩, by simp [intOf]; omega⟩
    all_goals
      rw [hLm]
      have hall := qall_any q g R f m L wr hE.qat
      unfold AllPost at hall
      rw [hLm] at hall
      have hml : (m : Int) ≤ 40 := by omega
      have Hall := Lib.hid hall
      have HE := Lib.hid hE
      have HLm := Lib.hid hLm
      clear hall hE hLm
      go_wp2_with fail
      refine Hall.out.mono ?_
      rintro e w2 ⟨oa, c, rfl, o2, B2⟩
      obtain ⟨ao, cap, ev, _, _, D2⟩ := own_clip o2
      obtain ⟨rfl, -, -⟩ := Value.slice.inj ev
      have hE2 := HE.out.new B2
      have hrd2 := hE2.off.rd
      rw [HLm.out] at hrd2
      have hev := events_any _ (.slice tsa m tsc) m L HLm.out w2 D2.1 hrd2
      have Hev := Lib.hid hev
      have HE2 := Lib.hid hE2
      clear hev hE2 o2 D2 ev hrd2
      go_wp2_with fail
      refine Hev.out.mono ?_
      rintro e w3 ⟨rfl, j3, rfl⟩
      have hE3 := HE2.out.new (Below.drewN' (Below.refl _ w2) j3)
      have hfr := free_any q g R f m L _ hE3.qat
      have HE3 := Lib.hid hE3
      have Hfr := Lib.hid hfr
      clear hfr hE3
      go_wp2_with fail
      refine Hfr.out.mono ?_
      rintro e w4 ⟨rfl, d4, rfl⟩
      have hsub : (((R - m : Nat) : Int) == (R : Int) - (m : Int)) = true := by simp; omega
      go_wp2
      go_ret
      exact ⟨rfl, (HE2.out.new (Below.drewN' (Below.refl _ w2) _)).bel⟩
end Go.Proofs.Ytlcmjpligaiadaa
