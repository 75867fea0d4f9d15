/- PairsWithout walked. -/
import Derived.Test.YtlcmjpligaiadaaWc
namespace Go.Proofs.Ytlcmjpligaiadaa
open Go.RowKit
/-- What a set of some room holds when these have been put. -/
def putAll (room : Nat) (ps : List Pr) : List Pr := ps.foldl (putS room) []
theorem putAll_snoc (room : Nat) (ps : List Pr) (p : Pr) : putAll room (ps ++ [p]) = putS room (putAll room ps) p := by simp [putAll]
theorem woP_woP (l : List Pr) (h : Int) : woP (woP l h) h = woP l h := by simp [woP]
theorem woP_has {l : List Pr} {p : Pr} (h : Int) (hp : p ∈ l) : hasP (woP l h) p = !ofH h p := by
  unfold hasP woP
  cases e : ofH h p <;> simp [hp, e]
/-- How many of the first k are of a handle. -/
def ofN (l : List Pr) (h : Int) : Int := (l.length : Int) - ((woP l h).length : Int)
theorem ofN_snoc (l : List Pr) (h : Int) (p : Pr) : ofN (l ++ [p]) h = if ofH h p = true then ofN l h + 1 else ofN l h := by
  unfold ofN
  rw [woP_snoc]
  split <;> simp <;> omega
theorem ofN_nil (h : Int) : ofN [] h = 0 := rfl
theorem ofN_bd (l : List Pr) (h : Int) : 0 ≤ ofN l h ∧ ofN l h ≤ (l.length : Int) := by
  have := woP_le l h
  unfold ofN
  omega
set_option maxRecDepth 100000 in
set_option maxHeartbeats 4000000 in
theorem pwithout_any (lv : Value) (n : Nat) (l : List Pr) (hl : l.length = n) (h : Int) (w : World) (hr : Rd w lv n 2 (pairCells l)) :
    Calls Try.prog 5 #[lv, .int .i64 h] w fun e w' => e = .returned (.bool true) ∧ Below w.heap.size w w' := by
  obtain ⟨la, lc, rfl, l1, l2⟩ := hr.shape
  obtain ⟨m, hm⟩ : ∃ m : Nat, m = min n 500 := ⟨_, rfl⟩
  have hmn : m ≤ n := by omega
  have hm5 : m ≤ 500 := by omega
  have hmin : (if (500 : Int) < (n : Int) then (500 : Int) else (n : Int)) = (m : Int) := by split <;> omega
  have hrm := hr.take hmn
  rw [pairs_take] at hrm
  obtain ⟨L, hL⟩ : ∃ L, L = l.take m := ⟨_, rfl⟩
  have HL : L.length = m := by rw [hL, List.length_take]; omega
  rw [← hL] at hrm
  have Hm := Lib.hid hm
  have HLl := Lib.hid HL
  clear hm HL hL
  go_enter Try.func5, Try.ntmps5
  go_wp2_with fail
  refine (awake4_any w).mono ?_
  rintro e w0 ⟨rfl, B0⟩
  go_wp2_with fail
  refine (pnew_ok 1024 1024 rfl w.heap.size w0 (by decide) (by decide)).mono ?_
  rintro e w1 ⟨rfl, S1, B1⟩
  have hr1 := hrm.new (B0.trans (B1.mono B0.size))
  go_wp2
  obtain ⟨s, hs⟩ : ∃ s, w0.heap.size = s := ⟨_, rfl⟩
  rw [hs] at S1 ⊢
  have hs0 : w.heap.size ≤ s := by rw [← hs]; exact B0.size
  have M1 : Mod (fun j => w.heap.size ≤ j) w w1 := below_mod (B0.trans (B1.mono B0.size))
  clear hs
  go_loopw [8] (fun i wr => ∃ k : Nat, k ≤ m ∧ i = .int .i64 k ∧ Mod (fun j => w.heap.size ≤ j) w wr ∧ ∃ v, SetAt wr s w.heap.size v 1024 (putAll 1024 (L.take k)) ∧ ∀ j, Foot s v j → w.heap.size ≤ j) (fun i _ => m - (intOf i).toNat)
  case atStart => exact ⟨0, Nat.zero_le _, rfl, M1, _, by rw [List.take_zero]; exact S1, fun j h => h.elim (fun e => by omega) (fun e => by simp [Value.ownBlock] at e)⟩
  case round =>
    obtain ⟨k, hk, rfl, Mr, v, Sr, Fr⟩ := hrel
    by_cases hlt : k < m
    · have hkI : (k : Int) < (m : Int) := by omega
      obtain ⟨p, hp⟩ : ∃ p, L[k]? = some p := ⟨_, List.getElem?_eq_getElem (by rw [HLl.out]; exact hlt)⟩
      obtain ⟨ab, ao, rfl⟩ := hrm.addr (by omega)
      have hr' := hrm.mod Mr (fun b hb => by have := hr.block_lt (by omega); simp [Value.ownBlock] at hb; omega)
      obtain ⟨f0, f1⟩ := hr'.pair HLl.out hlt hp
      go_wp2_with fail
      refine (put_any s w.heap.size 1024 v (putAll 1024 (L.take k)) p _ (by exact Mr.size) Sr).mono ?_
      rintro e w2 ⟨he, v2, S2, m2, q2⟩
      subst he
      go_wp2
      go_roundw
      case rel =>
        refine ⟨k + 1, by omega, by go_num, Mr.trans (m2.mono (fun j hj h => Fr j h)), v2, ?_, fun j h => (q2 j h).elim (Fr j) (fun h => by have := Mr.size; omega)⟩
        obtain ⟨hk1, rfl⟩ := List.getElem?_eq_some_iff.1 hp
        rw [List.take_succ_eq_append_getElem hk1, putAll_snoc]
        exact S2
      case measure => simp [intOf]; omega
    · obtain rfl : k = m := by omega
      have hkI : ¬ (k : Int) < (k : Int) := by omega
      have Hl1 := Lib.hid (show List.take k L = L from by rw [← HLl.out, List.take_length])
      rw [Hl1.out] at Sr
      obtain ⟨A, hA⟩ : ∃ A, A = putAll 1024 L := ⟨_, rfl⟩
      rw [← hA] at Sr
      clear hA Hl1
      go_wp2_with fail
      refine (allof_any s w.heap.size 1024 v A _ Sr).mono ?_
      rintro e w2 ⟨ov, rfl, o2, B2⟩
      have S2 := Sr.new B2
      have M2 := Mr.trans (below_mod B2 (S := fun j => w.heap.size ≤ j))
      have hA5 := Sr.len
      have Rr := Rd.of_own o2
      have hapart : ∀ b, ov.ownBlock = some b → ¬ Foot s v b := fun b hb hf => by
        have h1 := ownBlock_ge o2 hb
        have h2 := Sr.lt hf
        omega
      obtain ⟨oa, oc, rfl, o1, oc2⟩ := Rr.shape
      go_wp2_with fail
      refine (without_any s w.heap.size 1024 v A h _ S2).mono ?_
      rintro e w3 ⟨he, v3, S3, m3, q3⟩
      have hofn : (A.length : Int) - ((woP A h).length : Int) = ofN A h := rfl
      rw [hofn] at he
      subst he
      have M3 := M2.trans (m3.mono (fun j hj h => Fr j h))
      have F3 : ∀ j, Foot s v3 j → w.heap.size ≤ j := fun j h => (q3 j h).elim (Fr j) (fun h => by have := M2.size; omega)
      have R3 := Rr.mod m3 hapart
      obtain ⟨na, hna⟩ : ∃ na, na = A.length := ⟨_, rfl⟩
      rw [← hna] at R3 o1 hA5 ⊢
      have Hna := Lib.hid hna
      obtain ⟨dr, hdr⟩ : ∃ dr, dr = ofN A h := ⟨_, rfl⟩
      rw [← hdr]
      have Hdr := Lib.hid hdr
      clear hdr hna hofn
      go_wp2
      go_loopw [11, 12, 13] (fun c i _ wr => ∃ k : Nat, k ≤ na ∧ i = .int .i64 k ∧ c = .int .i64 (ofN (A.take k) h) ∧ Below w3.heap.size w3 wr) (fun _ i _ _ => na - (intOf i).toNat)
      case atStart => exact ⟨0, Nat.zero_le _, rfl, rfl, Below.refl _ _⟩
      case round =>
        obtain ⟨k, hk, rfl, rfl, Bw⟩ := hrel
        rename_i wr
        by_cases hlt : k < na
        · have hkI : (k : Int) < (na : Int) := by omega
          obtain ⟨p, hp⟩ : ∃ p, A[k]? = some p := ⟨_, List.getElem?_eq_getElem (by rw [← Hna.out]; exact hlt)⟩
          obtain ⟨ab, ao, rfl⟩ := R3.addr (by omega)
          have hr' := R3.new Bw
          obtain ⟨f0, f1⟩ := hr'.pair Hna.out.symm hlt hp
          have Sx := S3.new Bw
          have hhas := woP_has h (List.mem_of_getElem? hp)
          have hbd := ofN_bd (A.take k) h
          have hsn := ofN_snoc (A.take k) h p
          obtain ⟨hk1, hpe⟩ := List.getElem?_eq_some_iff.1 hp
          have htk : A.take (k + 1) = A.take k ++ [p] := by rw [List.take_succ_eq_append_getElem hk1, hpe]
          have htl := Lib.hid (show (A.take k).length = k by rw [List.length_take]; omega)
          rw [htl.out] at hbd
          rw [← htk] at hsn
          have Hsn := Lib.hid hsn
          have Hhas := Lib.hid hhas
          clear hp hpe htk htl hsn hhas
          generalize ofN (A.take k) h = c at Hsn hbd ⊢
          have hc1 := hbd.1
          have hc2 := hbd.2
          have hgo : ∀ b : Bool, ofH h p = b → Calls Try.prog 24 #[.pointer (some ⟨s, 0, none⟩), .agg #[.int .i64 p.1, .int .i64 p.2]] wr fun e w' => e = .returned (.bool (!b)) ∧ Below wr.heap.size wr w' := fun b hb => by
            rw [← hb, ← Hhas.out]
            exact has_any s w.heap.size 1024 v3 (woP A h) p wr Sx
          by_cases e1 : p.1 = h
          · have ho : ofH h p = true := by simp [ofH, e1]
            have hb1 : (p.1 == h) = true := by simp [e1]
            clear e1
            go_wp2_with fail
            refine (hgo true ho).mono ?_
            rintro e w4 ⟨rfl, B4⟩
            go_wp2
            go_roundw
            case rel => exact ⟨k + 1, by omega, by go_num, by rw [Hsn.out, if_pos ho], Bw.trans (B4.mono Bw.size)⟩
            case measure => simp [intOf]; omega
          · have hb1 : (p.1 == h) = false := by simp [e1]
            by_cases e2 : p.2 = h
            · have ho : ofH h p = true := by simp [ofH, e2]
              have hb2 : (p.2 == h) = true := by simp [e2]
              clear e2
              go_wp2_with fail
              refine (hgo true ho).mono ?_
              rintro e w4 ⟨rfl, B4⟩
              go_wp2
              go_roundw
              case rel => exact ⟨k + 1, by omega, by go_num, by rw [Hsn.out, if_pos ho], Bw.trans (B4.mono Bw.size)⟩
              case measure => simp [intOf]; omega
            · have ho : ofH h p = false := by simp [ofH, e1, e2]
              have hb2 : (p.2 == h) = false := by simp [e2]
              go_wp2_with fail
              refine (hgo false ho).mono ?_
              rintro e w4 ⟨rfl, B4⟩
              go_wp2
              go_roundw
              case rel => exact ⟨k + 1, by omega, by go_num, by rw [Hsn.out, if_neg (by rw [ho]; simp)], Bw.trans (B4.mono Bw.size)⟩
              case measure => simp [intOf]; omega
        · obtain rfl : k = na := by omega
          have hkI : ¬ (k : Int) < (k : Int) := by omega
          have htk : A.take k = A := by rw [Hna.out, List.take_length]
          rw [htk, ← Hdr.out]
          have Sx := S3.new Bw
          have hbd := ofN_bd A h
          have hww := woP_woP A h
          have hwl : ((woP A h).length : Int) = (k : Int) - dr := by rw [Hdr.out, Hna.out]; unfold ofN; omega
          have hwb : (((woP A h).length : Int) == (k : Int) - dr) = true := by rw [hwl]; simp
          rw [← Hdr.out, ← Hna.out] at hbd
          have d0 := hbd.1
          have d1 := hbd.2
          have Hwl := Lib.hid hwl
          clear hwl hbd htk
          go_wp2_with fail
          refine (plen_any s w.heap.size 1024 v3 (woP A h) wr Sx).mono ?_
          rintro e w4 ⟨rfl, rfl⟩
          go_wp2_with fail
          refine (without_any s w.heap.size 1024 v3 (woP A h) h wr Sx).mono ?_
          rintro e w5 ⟨he, v5, S5, m5, q5⟩
          rw [hww, Int.sub_self] at he
          subst he
          go_wp2
          go_ret
          exact ⟨rfl, ((M3.trans (below_mod Bw)).trans (m5.mono (fun j hj h => F3 j h))).below (Nat.le_refl _) (fun j h1 h2 => by omega)⟩
end Go.Proofs.Ytlcmjpligaiadaa
