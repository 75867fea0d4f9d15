/- The difference of two sets of pairs, walked. -/
import Derived.Test.YtlcmjpligaiadaaE4
import Derived.Test.YtlcmjpligaiadaaW8
import Derived.Test.YtlcmjpligaiadaaWe
namespace Go.Proofs.Ytlcmjpligaiadaa
open Go.RowKit
/-- A set, or none, below H. -/
def SetO (w : World) (H : Nat) (p : Value) (l : List Pr) : Prop :=
  (p = .pointer none ∧ l = []) ∨ ∃ s base room v, p = .pointer (some ⟨s, 0, none⟩) ∧ SetAt w s base v room l ∧ ∀ j, Foot s v j → j < H
theorem SetO.below {w w' : World} {H : Nat} {p : Value} {l : List Pr} (h : SetO w H p l) (_ : H ≤ w.heap.size) (hB : Below H w w') : SetO w' H p l := by
  rcases h with h | ⟨s, base, room, v, e, h, hl⟩
  · exact .inl h
  · exact .inr ⟨s, base, room, v, e, h.mod (Mod.of_below hB (S := fun k => H ≤ k) (fun k h1 _ => h1)) (fun j h1 h2 => by have := hl j h1; omega), hl⟩
def BeyP (l m : List Pr) (w : World) (e : Ending) (w' : World) : Prop :=
  ∃ oa c, e = .returned (.slice oa (beyP l m).length (beyP l m).length) ∧ w'.ownsRow w.heap.size 42 2 (.slice oa (beyP l m).length c) (beyP l m).length (pairCells (beyP l m)) ∧ Below w.heap.size w w'
theorem beyondO_any (s base room H : Nat) (v pb : Value) (l m : List Pr) (w : World) (hs : SetAt w s base v room l) (hb : SetO w H pb m) :
    Calls Try.prog 26 #[.pointer (some ⟨s, 0, none⟩), pb] w (BeyP l m w) := by
  rcases hb with ⟨rfl, rfl⟩ | ⟨t, base2, room2, v2, rfl, ht, _⟩
  · exact (beyond_nil s base room v l w hs).mono fun _ _ h => h
  · exact (beyond_any s base room t base2 room2 v v2 l m w hs ht).mono fun _ _ h => h
def mkEv (kind : Int) (p : Pr) : Ev := ⟨kind, p.1, p.2⟩
def diffL (lo ln : List Pr) : List Ev := (beyP ln lo).map (mkEv 1) ++ (beyP lo ln).map (mkEv 2)
def TellPost (H ob : Nat) (w : World) (O : List Ev) (e : Ending) (w' : World) : Prop :=
  e = .returned (.tuple #[]) ∧ ∃ ov, Blk w' ob 53 [ov] ∧ w'.ownsRow H 56 3 ov O.length (evCells O) ∧ Below H w w'
set_option maxRecDepth 100000 in
set_option maxHeartbeats 4000000 in
theorem tell_any (kind : Int) (pa pb : Value) (l m : List Pr) (H ob : Nat) (ov : Value) (O : List Ev) (w : World) (hH : H ≤ w.heap.size) (hob : H ≤ ob) (ha : SetO w H pa l) (hb : SetO w H pb m) (hO : O.length ≤ 8192)
    (ho : Blk w ob 53 [ov]) (hown : w.ownsRow H 56 3 ov O.length (evCells O)) :
    Calls Try.prog 70 #[.int .i64 kind, pa, pb, .pointer (some ⟨ob, 0, none⟩)] w (TellPost H ob w (O ++ (beyP l m).map (mkEv kind))) := by
  rcases ha with ⟨rfl, rfl⟩ | ⟨s, base, room, v, rfl, hs, hsl⟩
  · have hnil : O ++ (beyP [] m).map (mkEv kind) = O := by simp [beyP]
    rw [hnil]
    clear hnil
    go_enter Try.func70, Try.ntmps70
    go_wp2
    exact bodyPost_ret (v := .tuple #[]) (by simp [results, Try.f70, go_sem]) rfl ⟨rfl, ov, ho, hown, Below.refl _ _⟩
  · have hbey := beyondO_any s base room H v pb l m w hs hb
    have hle := beyP_le l m
    have hln := hs.len
    unfold BeyP at hbey
    obtain ⟨B, hBe⟩ : ∃ B, B = beyP l m := ⟨_, rfl⟩
    rw [← hBe] at hbey hle ⊢
    have Hbey := Lib.hid hbey
    obtain ⟨i0, hi, hz0, hz1, hz2⟩ := info_parts info56
    have hBl : B.length ≤ 4096 := by omega
    clear hBe hbey hle hln
    go_enter Try.func70, Try.ntmps70
    go_wp2_with fail
    refine Hbey.out.mono ?_
    rintro e w1 ⟨oa, c, rfl, o1, B1⟩
    have ho1 := ho.below B1 ho.lt
    have hown1 := own_new hown B1
    have hb1 := B1.size
    have BH : Below H w w1 := B1.mono hH
    obtain ⟨n, hn⟩ : ∃ n, n = B.length := ⟨_, rfl⟩
    have Hn := Lib.hid hn
    rw [← hn] at o1 hBl ⊢
    clear hn
    go_wp2
    go_loopw [8, 15] (fun _ i wr => ∃ (k : Nat) (ov : Value), k ≤ n ∧ i = .int .i64 k ∧ Blk wr ob 53 [ov] ∧ wr.ownsRow H 56 3 ov (O ++ (B.take k).map (mkEv kind)).length (evCells (O ++ (B.take k).map (mkEv kind))) ∧ wr.ownsRow H 42 2 (.slice oa n c) n (pairCells B) ∧ Below H w wr) (fun _ i _ => n - (intOf i).toNat)
    case atStart => exact ⟨0, ov, Nat.zero_le _, rfl, ho1, by simpa using hown1, own_base o1 hH, BH⟩
    case round =>
      clear ho1 hown1 o1 BH ho hown ov
      obtain ⟨k, ov, hk, rfl, ho, hown, o1, BH⟩ := hrel
      have hwr := BH.size
      by_cases hlt : k < n
      · have hkI : (k : Int) < (n : Int) := by omega
        obtain ⟨p, hp⟩ : ∃ p, B[k]? = some p := ⟨_, List.getElem?_eq_getElem (by rw [← Hn.out]; exact hlt)⟩
        obtain ⟨ab, cc, e1⟩ := own_shape o1 (by omega)
        simp only [Value.slice.injEq, true_and] at e1
        obtain ⟨rfl, rfl⟩ := e1
        have hrl := Rd.of_own o1
        obtain ⟨f0, f1⟩ := hrl.pair Hn.out.symm hlt hp
        have htk := take_at hp
        have hsn : O ++ (B.take (k + 1)).map (mkEv kind) = (O ++ (B.take k).map (mkEv kind)) ++ [mkEv kind p] := by rw [htk]; simp
        have Hsn := Lib.hid hsn
        have hTl : (O ++ (B.take k).map (mkEv kind)).length ≤ 8192 + k := by simp; omega
        obtain ⟨T, hT⟩ : ∃ T, T = (O ++ (B.take k).map (mkEv kind)).length := ⟨_, rfl⟩
        rw [← hT] at hown hTl
        have HT := Lib.hid hT
        have c0 := ho.cell 0
        have k0 := ho.frozen 0
        simp only [List.getElem?_cons_zero] at c0
        have hobl := ho.lt
        obtain ⟨va, vc, rfl, v1, v2⟩ := (Rd.of_own hown).shape
        obtain ⟨p1, p2⟩ := p
        simp only [Nat.zero_add] at f0 f1
        have habl : ab < wr.heap.size := hrl.block_lt (by omega)
        clear hp htk hsn hT
        go_wp2_with (at_builtin; refine wpList_append_own _ rfl _ _ 53 rfl H 56 i0 (.agg #[.int .i64 0, .int .i64 0, .int .i64 0]) 3 24 Try.underlying53 hi hz0 hz1 hz2 rfl (by decide) _ _ _ rfl ((hown.alloc _).alloc _) ⟨wr.heap.size + 1, 0, none⟩ 1 1 [.int .i64 kind, .int .i64 p1, .int .i64 p2] rfl rfl (World.news_of_block (cs := #[.int .i64 kind, .int .i64 p1, .int .i64 p2]) (t := 56) (fr := (0, 0)) (by rw [show wr.heap.size + 1 = (wr.alloc (.cells #[.int .i64 p1, .int .i64 p2] 42)).heap.size from by simp]; exact heap_alloc_new _ _)) (by simp [Value.oneCell']) (by unfold maxLen; omega) (by omega) (by simp; omega) ?_
                     intro v' w3 o3 g3 _
                     obtain ⟨ua, uc, rfl, _, _⟩ := (Rd.of_own o3).shape
                     have hobv := own_ne ((hown.alloc (.cells #[.int .i64 p1, .int .i64 p2] 42)).alloc (.cells #[.int .i64 kind, .int .i64 p1, .int .i64 p2] 56)) ((ho.alloc _).alloc _) (by decide)
                     have ho3 := ((ho.alloc (.cells #[.int .i64 p1, .int .i64 p2] 42)).alloc (.cells #[.int .i64 kind, .int .i64 p1, .int .i64 p2] 56)).grown g3 hobv
                     have k3 := ho3.cell 0
                     have k4 := ho3.frozen 0
                     simp only [List.getElem?_cons_zero] at k3)
        have l3 := own_grown ((o1.alloc (.cells #[.int .i64 p1, .int .i64 p2] 42)).alloc (.cells #[.int .i64 kind, .int .i64 p1, .int .i64 p2] 56)) ((hown.alloc _).alloc _) (by decide) g3
        have B3 := ((BH.alloc (by omega) (.cells #[.int .i64 p1, .int .i64 p2] 42)).alloc (by simp; omega) (.cells #[.int .i64 kind, .int .i64 p1, .int .i64 p2] 56)).grown g3 (by simp; omega) (fun r hr => ownBlock_ge hown hr)
        have hvo := own_ne o3 ho3 (by decide)
        have hlo := own_ne l3 ho3 (by decide)
        go_roundw
        case rel => exact ⟨k + 1, _, by omega, by go_num, ho3.set 0 _, by rw [Hsn.out, List.length_append, ev_append, ← HT.out]; exact ownsRow_setCell_other (a := ⟨ob, 0, none⟩) o3 hvo _, ownsRow_setCell_other (a := ⟨ob, 0, none⟩) l3 hlo _, B3.setCell hob _⟩
        case measure => simp [intOf]; omega
      · obtain rfl : k = n := by omega
        have hkI : ¬ (k : Int) < (k : Int) := by omega
        have ht : B.take k = B := by rw [Hn.out, List.take_length]
        rw [ht] at hown
        go_wp2
        exact bodyPost_ret (v := .tuple #[]) (by simp [results, Try.f70, go_sem]) rfl ⟨rfl, ov, ho, hown, BH⟩
end Go.Proofs.Ytlcmjpligaiadaa
