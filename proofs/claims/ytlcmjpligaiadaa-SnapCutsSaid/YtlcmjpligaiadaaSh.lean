/- Snap: Take of what Lay has laid. -/
import Derived.Test.YtlcmjpligaiadaaSg
namespace Go.Proofs.Ytlcmjpligaiadaa
open Go.RowKit
def TakeP (l : List Int) (n : Nat) (w : World) (e : Ending) (w' : World) : Prop :=
  ∃ v', e = .returned (.tuple #[v', .int .i64 0]) ∧ Rd w' v' n 1 (ints l) ∧ (n = 0 ∨ ∃ (g : Nat) (zs : List Value), v' = .slice (some ⟨g, 0, none⟩) n n ∧ Blk w' g 3 zs ∧ n ≤ zs.length ∧ w.heap.size ≤ g) ∧ Below w.heap.size w w'
theorem lay_take8 (l : List Int) : (layNs l).take 8 = headN l := by
  unfold layNs bodyN
  rw [List.append_assoc, List.take_left' (headN_len l)]
theorem layNs_len (l : List Int) : (layNs l).length = 16 + 8 * l.length := by unfold layNs; rw [List.length_append, bodyN_len, be_len]; omega
theorem lay_end (l : List Int) : (layNs l).drop (8 + 8 * l.length) = be (sumN (bodyN l)) 8 := by
  unfold layNs
  rw [List.drop_left' (by rw [bodyN_len]; omega)]
theorem lay_body (l : List Int) : (layNs l).take (8 + 8 * l.length) = bodyN l := by
  unfold layNs
  rw [List.take_left' (by rw [bodyN_len]; omega)]
theorem mid_at : ∀ (l : List Int) (k : Nat) (x : Int), l[k]? = some x → ∀ tl : List Nat, ((midN l ++ tl).drop (8 * k)).take 8 = be (word x) 8
  | [], k, x, h, _ => by simp at h
  | a :: l, 0, x, h, tl => by
    simp only [List.getElem?_cons_zero, Option.some.injEq] at h
    subst h
    unfold midN
    rw [List.flatMap_cons, Nat.mul_zero, List.drop_zero, List.append_assoc, List.take_left' (be_len _ _)]
  | a :: l, k + 1, x, h, tl => by
    have := mid_at l k x (by simpa using h) tl
    unfold midN at this ⊢
    rw [List.flatMap_cons, List.append_assoc, Nat.mul_add, Nat.mul_one, Nat.add_comm, ← List.drop_drop, List.drop_left' (be_len _ _)]
    exact this
theorem lay_at (l : List Int) (k : Nat) (x : Int) (h : l[k]? = some x) : ((layNs l).drop (8 + 8 * k)).take 8 = be (word x) 8 := by
  unfold layNs bodyN
  rw [← List.drop_drop, List.append_assoc, List.drop_left' (headN_len l)]
  exact mid_at l k x h _
theorem Rd.clipped {w : World} {ao : Option Addr} {n cap : Nat} {xs : List Value} (h : Rd w (.slice ao n cap) n 1 xs) : Rd w (.slice ao n n) n 1 xs := by
  obtain ⟨ao', cap', he, h1, h2, h3, h4⟩ := h
  cases he
  exact ⟨ao, n, rfl, h1, Nat.le_refl _, by omega, h4⟩
theorem info3s : (Try.prog.info? 3).map (fun i => (i.zero, i.size, i.bytes)) = some (some (.int .i64 0), 1, 8) := by kernel_rfl
theorem word_back (x : Int) (h : -9223372036854775808 ≤ x ∧ x < 9223372036854775808) : IntKind.i64.wrap ((word x : Nat) : Int) = x := by
  rw [IntKind.wrap_i64]; unfold word; omega
set_option maxRecDepth 100000 in
set_option maxHeartbeats 1000000 in
theorem take_good (l : List Int) (n : Nat) (hl : l.length = n) (hn : n ≤ 4000) (hx : ∀ x ∈ l, -9223372036854775808 ≤ x ∧ x < 9223372036854775808) (s : ByteArray) (hs : nats s = layNs l) (w : World) :
    Calls Try.prog 17 #[.string s] w (TakeP l n w) := by
  have hsz : s.size = 16 + 8 * n := by rw [← nats_len, hs, layNs_len, hl]
  have hI : ¬ (s.size : Int) < 16 := by omega
  have hm : s.extract 0 4 = { data := #[84, 77, 66, 49] } := by
    apply nats_inj
    rw [nats_extract, List.drop_zero, magic_strN, nats_strN (by decide), hs]
    have : ((layNs l).take 8).take 4 = [84, 77, 66, 49] := by rw [lay_take8]; rfl
    rw [List.take_take] at this
    exact this
  have hg : nats (s.extract 4 8) = be n 4 := by
    rw [nats_extract, hs]
    have : ((layNs l).take 8).drop 4 = be n 4 := by rw [lay_take8]; unfold headN; rw [hl]; rfl
    rw [List.drop_take] at this
    exact this
  have Hg := Lib.hid hg
  have hb : nats (s.extract 0 (8 + 8 * n)) = bodyN l := by
    rw [nats_extract, hs, List.drop_zero, ← hl, Nat.sub_zero, lay_body]
  have he : nats (s.extract (8 + 8 * n) (16 + 8 * n)) = be (sumN (bodyN l)) 8 := by
    rw [nats_extract, hs, ← hl, lay_end, List.take_of_length_le (by rw [be_len]; omega)]
  have hat : ∀ k x, l[k]? = some x → nats (s.extract (8 + 8 * k) (16 + 8 * k)) = be (word x) 8 := fun k x h => by
    rw [nats_extract, hs, show 16 + 8 * k - (8 + 8 * k) = 8 by omega, lay_at l k x h]
  have Hat := Lib.hid hat
  have Hl := Lib.hid hl
  have Hx := Lib.hid hx
  have Hsz := Lib.hid hsz
  have h16 : 16 ≤ s.size := by omega
  have hmx : s.size ≤ 32016 := by omega
  obtain ⟨E, hE⟩ : ∃ E, E = 8 + 8 * n := ⟨_, rfl⟩
  have hes : (s.size : Int) - 8 = (E : Int) := by omega
  have hes2 : E ≤ s.size := by omega
  have hes3 : (E : Int) ≤ (s.size : Int) := by omega
  rw [← hE] at hb he
  rw [show 16 + 8 * n = s.size by omega] at he
  have Hb := Lib.hid hb
  have He := Lib.hid he
  have h5 : ((E : Int) != 8 + 8 * (n : Int)) = false := by simp; omega
  have HE := Lib.hid hE
  clear hE
  clear hg hb he hat hl hx hs hsz
  go_enter Try.func17, Try.ntmps17
  go_wp2_with fail
  refine (get58_any (s.extract 4 8) w (by rw [← nats_len, Hg.out, be_len]; decide)).mono ?_
  rintro e w1 ⟨rfl, rfl⟩
  rw [Hg.out, getN_be (by omega) (by omega)]
  have hc : IntKind.i64.wrap (n : Int) = n := IntWalk.i64_in _ (by omega)
  have h4 : decide ((4000 : Int) < (n : Int)) = false := by simp; omega
  have h6 : IntKind.i64.wrap (8 * (n : Int)) = 8 * (n : Int) := IntWalk.i64_in _ (by omega)
  have h7 : IntKind.i64.wrap (8 + 8 * (n : Int)) = 8 + 8 * (n : Int) := IntWalk.i64_in _ (by omega)
  go_wp2_with fail
  clear hes
  have hlb : (bodyN l).length ≤ 32008 := by rw [bodyN_len, Hl.out]; omega
  have hget : ∀ w, Calls Try.prog 58 #[.string (s.extract E s.size)] w fun e w' => e = .returned (.int .u64 ((sumN (bodyN l) : Nat) : Int)) ∧ ∃ m, w' = w.drewN m := fun w => by
    refine (get58_any (s.extract E s.size) _ (by rw [← nats_len, He.out, be_len]; decide)).mono ?_
    rintro e w1 ⟨rfl, rfl⟩
    rw [He.out, getN_be (by have := sumN_lt (bodyN l); omega) (sumN_lt _)]
    exact ⟨rfl, 0, rfl⟩
  have hsum : ∀ w, Calls Try.prog 14 #[.string (s.extract 0 E)] w fun e w' => e = .returned (.int .u64 ((sumN (bodyN l) : Nat) : Int)) ∧ ∃ m, w' = w.drewN m := fun w => by
    refine (sum14_any (s.extract 0 E) _ (by rw [← nats_len, Hb.out]; unfold maxLen; omega)).mono ?_
    rintro e w1 ⟨rfl, rfl⟩
    rw [Hb.out]
    exact ⟨rfl, 0, rfl⟩
  have Hget := Lib.hid hget
  have Hsum := Lib.hid hsum
  clear hget hsum
  have hss : (((sumN (bodyN l) : Nat) : Int) != ((sumN (bodyN l) : Nat) : Int)) = false := by simp
  generalize sumN (bodyN l) = U at *
  go_quiet
    (first
      | (refine Calls.quiet_of (Hget.out _))
      | (refine Calls.quiet_of (Hsum.out _)))
  clear hss hm hc h4 h6 h7 h5 Hget Hsum Hb He Hg hlb hes2 hes3 HE
  have hB0 : Below w.heap.size w (w.drewN nq) := Below.drewN' (Below.refl _ _) _
  generalize w.drewN nq = w0 at hB0 ⊢
  obtain ⟨i0, hi, hz0, hz1, hz2⟩ := info_parts info3s
  go_wp2
  go_loopw [6, 45] (fun b i wr => ∃ (k : Nat) (vb : Value), k ≤ n ∧ i = .int .i64 k ∧ vb = b ∧ wr.ownsRow w.heap.size 3 1 vb k (ints (l.take k)) ∧ Below w.heap.size w wr) (fun _ i _ => n - (intOf i).toNat)
  case atStart => exact ⟨0, _, Nat.zero_le _, rfl, rfl, World.ownsRow_nil _ _ _ _, hB0⟩
  case round =>
    clear hB0
    obtain ⟨k, vb, hk, rfl, rfl, ho, hB⟩ := hrel
    by_cases hlt : k < n
    · have hkI : (k : Int) < (n : Int) := by omega
      obtain ⟨x, hx⟩ : ∃ x, l[k]? = some x := ⟨_, List.getElem?_eq_getElem (by rw [Hl.out]; exact hlt)⟩
      have hxl : x ∈ l := by obtain ⟨h1, h2⟩ := List.getElem?_eq_some_iff.1 hx; rw [← h2]; exact List.getElem_mem h1
      have hwb := word_back x (Hx.out x hxl)
      have hex := Hat.out k x hx
      obtain ⟨A, hA⟩ : ∃ A, A = 8 + 8 * k := ⟨_, rfl⟩
      obtain ⟨B, hBd⟩ : ∃ B, B = 16 + 8 * k := ⟨_, rfl⟩
      rw [← hA, ← hBd] at hex
      have hA1 : (8 : Int) + 8 * (k : Int) = (A : Int) := by omega
      have hA2 : (A : Int) + 8 = (B : Int) := by omega
      have hAB : A ≤ B := by omega
      have hBs : B ≤ s.size := by have := Hsz.out; omega
      have hABI : (A : Int) ≤ (B : Int) := by omega
      have hBsI : (B : Int) ≤ (s.size : Int) := by omega
      have hwr := hB.size
      have hgl : Hid (∀ w, Calls Try.prog 58 #[.string (s.extract A B)] w fun e w' => e = .returned (.int .u64 ((word x : Nat) : Int)) ∧ w = w') := Lib.hid fun w => by
        refine (get58_any (s.extract A B) _ (by rw [← nats_len, hex, be_len]; decide)).mono ?_
        rintro e w1 ⟨rfl, rfl⟩
        rw [hex, getN_be (by have := word_lt x; omega) (word_lt _)]
        exact ⟨rfl, rfl⟩
      have HX := Lib.hid hx
      clear hA hBd hex hx hxl
      go_wp2_with fail
      refine (hgl.out _).mono ?_
      rintro e w1 ⟨rfl, rfl⟩
      go_wp2_with (at_builtin; refine wpList_append_own _ rfl _ _ 22 rfl w.heap.size 3 i0 (.int .i64 0) 1 8 Try.underlying22 hi hz0 hz1 hz2 rfl (by decide) _ _ _ rfl (ho.alloc _) ⟨wr.heap.size, 0, none⟩ 1 1 [.int .i64 x] rfl rfl (cell_one_new _ _ _) (by simp [Value.oneCell']) (by unfold maxLen; omega) (by omega) (by simp; omega) ?_; intro v' w1 o1 g1 _)
      have hB1 := (hB.alloc (by omega) (.cells #[.int .i64 x] 3)).grown g1 (by simp; omega) (fun r hr => ownBlock_ge ho hr)
      go_roundw
      case rel =>
        refine ⟨k + 1, _, by omega, by go_num, rfl, ?_, hB1⟩
        rw [List.take_add_one, HX.out]
        simpa [ints] using o1
      case measure => simp [intOf]; omega
    · obtain rfl : k = n := by omega
      have hkI : ¬ (k : Int) < (k : Int) := by omega
      have ht : l.take k = l := by rw [← Hl.out, List.take_length]
      rw [ht] at ho
      have HO := Lib.hid ho
      have hr := Rd.of_own ho
      obtain ⟨ao, cp, rfl, hcp, hcm⟩ := hr.shape
      clear ho ht
      go_wp2_with fail
      refine (clip59_any ao k cp wr hcp hcm).mono ?_
      rintro e w1 ⟨rfl, rfl⟩
      have HB := Lib.hid hB
      clear hB
      go_wp2
      go_ret2
      refine ⟨_, rfl, hr.clipped, ?_, HB.out⟩
      rcases HO.out.2 with ⟨_, h0⟩ | ⟨g, cap, cur, he, hg, hblk, h1, _, h3, _⟩
      · exact .inl h0
      · refine .inr ⟨g, cur.toList, ?_, ?_, ?_, hg⟩
        · cases he; rfl
        · unfold Blk; rw [hblk]
        · rw [Array.length_toList, h3]; omega
end Go.Proofs.Ytlcmjpligaiadaa
