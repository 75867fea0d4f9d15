/- Contacts: plain facts and calls for the reference's Touch. -/
import Derived.Test.YtpbpdgknjbjlcaaDf
import Derived.Test.YtpbpdgknjbjlcaaCf
import Derived.Test.YtpbpdgknjbjlcaaCs
namespace Go.Proofs.Ytpbpdgknjbjlcaa
open Go.RowKit
theorem reach22_call (pv av ev : Value) (r : Int) (P : List Pt) (d : Pt) (w : World) (hv : Rd w pv P.length 3 (ptCells P)) (hd : Near 16777216 d) (hp : ∀ p ∈ P, Near 16777216 p) (hne : P ≠ []) :
    Calls Try.prog 22 #[corV pv av ev r, ptV d] w fun e w' => e = .returned (.tuple #[.int .i64 (loL d P), .int .i64 (hiL d P)]) ∧ Below w.heap.size w w' := by
  cases h : P with
  | nil => exact absurd h hne
  | cons x l => exact reach22_any pv av ev r P.length l x d w (by rw [h]) (by rw [← h]; exact hv) (near_mono hd (by decide)) (fun p hm => near_mono (hp p (by rw [h]; exact hm)) (by decide))
theorem spread24_call (pv av ev : Value) (r : Int) (P : List Pt) (iv : Value) (L : List Nat) (w : World) (hv : Rd w pv P.length 3 (ptCells P)) (hp : ∀ p ∈ P, Near 16777216 p) (hn : L.length ≤ 100) (hi : Rd w iv L.length 1 (idxCells L)) (hlt : ∀ k ∈ L, k < P.length) (hL : L ≠ []) :
    Calls Try.prog 24 #[corV pv av ev r, iv] w fun e w' => e = .returned (.int .i64 (spreadL (L.map (ptAt P)))) ∧ Below w.heap.size w w' := by
  cases h : L.map (ptAt P) with
  | nil => exact absurd (List.map_eq_nil_iff.1 h) hL
  | cons q qs => exact spread24_walk pv av ev r P.length P iv L.length L q qs w rfl hv hp rfl hn hi hlt h
theorem fronA_call (pv av ev : Value) (a : Cor) (n : Pt) (w : World) (hv : Rd w pv a.P.length 3 (ptCells a.P)) (hd : Near 16777216 n) (hp : ∀ p ∈ a.P, Near 16777216 p) (hn : a.P.length ≤ 100) (hne : a.P ≠ []) (hu : 0 ≤ upP n ∧ upP n ≤ 67108864) :
    Calls Try.prog 23 #[corV pv av ev a.r, ptV n, .int .i64 (upP n), .bool true] w fun e w' => (∃ v, e = .returned v ∧ w'.ownsRow w.heap.size 3 1 v (fronA a n).length (idxCells (fronA a n))) ∧ Below w.heap.size w w' := by
  unfold fronA
  cases h : a.P with
  | nil => exact absurd h hne
  | cons x l => exact front23_hi pv av ev a.r a.P.length l x n (upP n) w (by rw [h]) hn (by rw [← h]; exact hv) hd (fun p hm => hp p (by rw [h]; exact hm)) hu
theorem fronB_call (pv av ev : Value) (b : Cor) (n : Pt) (w : World) (hv : Rd w pv b.P.length 3 (ptCells b.P)) (hd : Near 16777216 n) (hp : ∀ p ∈ b.P, Near 16777216 p) (hn : b.P.length ≤ 100) (hne : b.P ≠ []) (hu : 0 ≤ upP n ∧ upP n ≤ 67108864) :
    Calls Try.prog 23 #[corV pv av ev b.r, ptV n, .int .i64 (upP n), .bool false] w fun e w' => (∃ v, e = .returned v ∧ w'.ownsRow w.heap.size 3 1 v (fronB b n).length (idxCells (fronB b n))) ∧ Below w.heap.size w w' := by
  unfold fronB
  cases h : b.P with
  | nil => exact absurd h hne
  | cons x l => exact front23_lo pv av ev b.r b.P.length l x n (upP n) w (by rw [h]) hn (by rw [← h]; exact hv) hd (fun p hm => hp p (by rw [h]; exact hm)) hu
theorem four27_any (sv : Value) (n : Nat) (l : List Sp) (w : World) (hl : l.length = n) (hv : Rd w sv n 5 (spCells l)) (hn : n ≤ 1000) (hnear : ∀ s ∈ l, Near 67108864 s.p) :
    Calls Try.prog 27 #[sv] w fun e w' => (∃ v r, e = .returned v ∧ IsFour l r ∧ Rd w' v r.length 5 (spCells r) ∧ ∀ B, v.ownBlock = some B → sv.ownBlock = some B ∨ w.heap.size ≤ B) ∧ Below w.heap.size w w' := by
  rcases Nat.lt_or_ge 4 n with h | h
  · refine (four27_many sv n l w hl hv h hn hnear).mono ?_
    rintro e w' ⟨⟨v, C, rfl, hc, h4, hown⟩, hB⟩
    refine ⟨⟨v, (sortN C).map (spAt l), rfl, .inr ⟨by omega, C, by rw [hl]; exact hc, h4, rfl⟩, ?_⟩, hB⟩
    have e : ((sortN C).map (spAt l)).length = 4 := by rw [List.length_map, sortN_len, h4]
    rw [e]
    exact ⟨Rd.of_own hown, fun B hB => .inr (ownBlock_ge hown hB)⟩
  · refine (four27_few sv n l w hv h).mono ?_
    rintro e w' ⟨rfl, rfl⟩
    exact ⟨⟨sv, l, rfl, .inl ⟨by omega, rfl⟩, by rw [hl]; exact hv, fun B hB => .inl hB⟩, Below.refl _ _⟩
theorem isFour_len {l r : List Sp} (h : IsFour l r) : r.length = 0 ↔ l = [] := by
  rcases h with ⟨h1, rfl⟩ | ⟨h1, C, h2, h3, rfl⟩
  · exact List.length_eq_zero_iff
  · rw [List.length_map, sortN_len, h3]
    refine ⟨fun h => absurd h (by decide), fun h => ?_⟩
    rw [h] at h1
    simp at h1
theorem take_map_snoc {L : List Nat} {mk : Nat → Sp} {k x : Nat} (h : L[k]? = some x) : (L.take (k + 1)).map mk = (L.take k).map mk ++ [mk x] := by
  rw [List.take_add_one, h]
  simp
theorem take_filter_snoc {S : List Sp} {within : Int} {k : Nat} {x : Sp} (h : S[k]? = some x) : (S.take (k + 1)).filter (keepS within) = (S.take k).filter (keepS within) ++ (if keepS within x then [x] else []) := by
  rw [List.take_add_one, h]
  simp only [Option.toList_some, List.filter_append]
  congr 1
  cases hk : keepS within x <;> simp [hk]
end Go.Proofs.Ytpbpdgknjbjlcaa
