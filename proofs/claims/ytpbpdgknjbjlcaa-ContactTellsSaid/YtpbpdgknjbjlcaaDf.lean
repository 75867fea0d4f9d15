/- Contacts: Touch where it goes on. -/
import Derived.Test.YtpbpdgknjbjlcaaDe
namespace Go.Proofs.Ytpbpdgknjbjlcaa
open Go.RowKit
theorem axis_small {n : Pt} (hn : nearB 16777216 n = true) : Near (smallP n) n := by
  have hs := dot_self (nearB_iff.1 hn)
  obtain ⟨h0, h1, h2⟩ := root_is hs.1
  have e : smallP n = rootP (dotP n n) := by unfold smallP; rw [hn, if_pos rfl]
  rw [e]
  have key : ∀ x : Int, x * x ≤ dotP n n → -(rootP (dotP n n)) ≤ x ∧ x ≤ rootP (dotP n n) := by
    intro x hx
    have hlt : x * x < (rootP (dotP n n) + 1) * (rootP (dotP n n) + 1) := by omega
    have habs : x.natAbs < (rootP (dotP n n) + 1).natAbs := by
      rcases Nat.lt_or_ge x.natAbs (rootP (dotP n n) + 1).natAbs with q | q
      · exact q
      · have := Nat.mul_le_mul q q
        have e1 := Int.natAbs_mul_self (a := x)
        have e2 := Int.natAbs_mul_self (a := rootP (dotP n n) + 1)
        omega
    omega
  have e1 := sq_nonneg n.x
  have e2 := sq_nonneg n.y
  have e3 := sq_nonneg n.z
  have ed : dotP n n = n.x * n.x + n.y * n.y + n.z * n.z := rfl
  exact ⟨key n.x (by omega), key n.y (by omega), key n.z (by omega)⟩
theorem shift_range {x sm r : Int} (hx : -sm ≤ x ∧ x ≤ sm) (hs : 1 ≤ sm) (hr : 0 ≤ r) : -r ≤ (x * r).tdiv sm ∧ (x * r).tdiv sm ≤ r := by
  have h1 : (x * r).natAbs ≤ sm.natAbs * r.natAbs := by rw [Int.natAbs_mul]; exact Nat.mul_le_mul_right _ (by omega)
  have h2 : ((x * r).tdiv sm).natAbs ≤ r.natAbs := by
    rw [Int.natAbs_tdiv]
    refine Nat.le_trans (Nat.div_le_div_right h1) ?_
    rw [Nat.mul_div_cancel_left _ (by omega)]
    exact Nat.le_refl _
  omega
/-- A spot of a's, of b's. -/
noncomputable def mkA (a b : Cor) (n : Pt) (k : Nat) : Sp := ⟨⟨(ptAt a.P k).x + (n.x * a.r).tdiv (smallP n), (ptAt a.P k).y + (n.y * a.r).tdiv (smallP n), (ptAt a.P k).z + (n.z * a.r).tdiv (smallP n)⟩, downP (dotP n (ptAt a.P k) - loL n b.P) (smallP n) + a.r + b.r, (k : Int)⟩
noncomputable def mkB (a b : Cor) (n : Pt) (k : Nat) : Sp := ⟨⟨(ptAt b.P k).x - (n.x * b.r).tdiv (smallP n), (ptAt b.P k).y - (n.y * b.r).tdiv (smallP n), (ptAt b.P k).z - (n.z * b.r).tdiv (smallP n)⟩, downP (hiL n a.P - dotP n (ptAt b.P k)) (smallP n) + a.r + b.r, 256 + (k : Int)⟩
noncomputable def fronA (a : Cor) (n : Pt) : List Nat := frontL (atHi n (hiL n a.P) (upP n)) a.P
noncomputable def fronB (b : Cor) (n : Pt) : List Nat := frontL (atLo n (loL n b.P) (upP n)) b.P
def spreadL (l : List Pt) : Int := match l with | [] => 0 | q :: qs => spreadP q qs
def keepS (within : Int) (s : Sp) : Bool := decide (-within ≤ s.d)
noncomputable def spotsP (a b : Cor) (n : Pt) (within : Int) : List Sp :=
  if spreadL ((fronA a n).map (ptAt a.P)) < spreadL ((fronB b n).map (ptAt b.P)) then ((fronA a n).map (mkA a b n)).filter (keepS within)
  else ((fronB b n).map (mkB a b n)).filter (keepS within)
theorem fronA_ne {a : Cor} {n : Pt} (hp : a.P ≠ []) (hu : 0 ≤ upP n) : fronA a n ≠ [] := by
  unfold fronA
  cases h : a.P with
  | nil => exact absurd h hp
  | cons x l =>
    obtain ⟨p, hm, e⟩ := hiP_at n l x
    obtain ⟨k, hk⟩ := List.getElem?_of_mem hm
    have := frontL_mem (f := atHi n (hiL n (x :: l)) (upP n)) hk (by unfold atHi hiL; rw [e]; simp; omega)
    intro h0
    rw [h0] at this
    cases this
theorem fronB_ne {b : Cor} {n : Pt} (hp : b.P ≠ []) (hu : 0 ≤ upP n) : fronB b n ≠ [] := by
  unfold fronB
  cases h : b.P with
  | nil => exact absurd h hp
  | cons x l =>
    obtain ⟨p, hm, e⟩ := loP_at n l x
    obtain ⟨k, hk⟩ := List.getElem?_of_mem hm
    have := frontL_mem (f := atLo n (loL n (x :: l)) (upP n)) hk (by unfold atLo loL; rw [e]; simp; omega)
    intro h0
    rw [h0] at this
    cases this
theorem spread_call (pv av ev fb fd : Value) (r way first : Int) (P : List Pt) (iv : Value) (L : List Nat) (w : World) (hv : Rd w pv P.length 3 (ptCells P)) (hp : ∀ p ∈ P, Near 16777216 p) (hn : L.length ≤ 100) (hi : Rd w iv L.length 1 (idxCells L)) (hlt : ∀ k ∈ L, k < P.length) (hL : L ≠ []) :
    Calls Try.prog 17 #[.agg #[pv, av, ev, .int .i64 r, fb, fd, .int .i64 way, .int .i64 first], iv] w fun e w' => e = .returned (.int .i64 (spreadL (L.map (ptAt P)))) ∧ Below w.heap.size w w' := by
  cases h : L.map (ptAt P) with
  | nil => exact absurd (List.map_eq_nil_iff.1 h) hL
  | cons q qs => exact spread17_walk pv av ev fb fd r way first P.length P iv L.length L q qs w rfl hv hp rfl hn hi hlt h
theorem reach_call (pv av ev : Value) (r : Int) (P : List Pt) (d : Pt) (w : World) (hv : Rd w pv P.length 3 (ptCells P)) (hd : Near 16777216 d) (hp : ∀ p ∈ P, Near 16777216 p) (hne : P ≠ []) :
    Calls Try.prog 10 #[corV pv av ev r, ptV d] w fun e w' => e = .returned (.tuple #[.int .i64 (loL d P), .int .i64 (hiL d P)]) ∧ Below w.heap.size w w' := by
  cases h : P with
  | nil => exact absurd h hne
  | cons x l => exact reach10_any pv av ev r P.length l x d w (by rw [h]) (by rw [← h]; exact hv) (near_mono hd (by decide)) (fun p hm => near_mono (hp p (by rw [h]; exact hm)) (by decide))
theorem down_range {D sm : Int} (hD : -1688849860263936 ≤ D ∧ D ≤ 1688849860263936) (hs : 1 ≤ sm) : -1688849860263936 ≤ downP D sm ∧ downP D sm ≤ 1688849860263936 := by
  have e : downP D sm = D / sm := Int.fdiv_eq_ediv_of_nonneg D (by omega)
  rw [e]
  have h1 := Int.mul_ediv_add_emod D sm
  have h2 := Int.emod_nonneg D (show sm ≠ 0 by omega)
  have h3 := Int.emod_lt_of_pos D (show 0 < sm by omega)
  constructor
  · refine (Int.le_ediv_iff_mul_le (by omega)).2 ?_
    have := Int.mul_le_mul_of_nonneg_left hs (show (0 : Int) ≤ 1688849860263936 by decide)
    have e2 : -1688849860263936 * sm = -(1688849860263936 * sm) := Int.neg_mul _ _
    omega
  · refine Int.ediv_le_of_le_mul (by omega) ?_
    have := Int.mul_le_mul_of_nonneg_left hs (show (0 : Int) ≤ 1688849860263936 by decide)
    omega
theorem prod_range {x r : Int} (hx : -1048576 ≤ x ∧ x ≤ 1048576) (hr : 0 ≤ r ∧ r ≤ 65536) : -68719476736 ≤ x * r ∧ x * r ≤ 68719476736 := by
  have h1 : (x * r).natAbs ≤ 1048576 * 65536 := by rw [Int.natAbs_mul]; exact Nat.mul_le_mul (by omega) (by omega)
  omega
theorem spots_snoc {L : List Nat} {mk : Nat → Sp} {within : Int} {k x : Nat} (h : L[k]? = some x) : ((L.take (k + 1)).map mk).filter (keepS within) = ((L.take k).map mk).filter (keepS within) ++ (if keepS within (mk x) then [mk x] else []) := by
  rw [List.take_add_one, h]
  simp only [Option.toList_some, List.map_append, List.map_cons, List.map_nil, List.filter_append]
  congr 1
  cases hk : keepS within (mk x) <;> simp [hk]
theorem spots_len (L : List Nat) (mk : Nat → Sp) (within : Int) (k : Nat) : (((L.take k).map mk).filter (keepS within)).length ≤ L.length := by
  refine Nat.le_trans (List.length_filter_le _ _) ?_
  rw [List.length_map, List.length_take]
  omega
theorem four19_any (sv : Value) (n : Nat) (l : List Sp) (w : World) (hl : l.length = n) (hv : Rd w sv n 5 (spCells l)) (hnear : ∀ s ∈ l, Near 67108864 s.p) :
    Calls Try.prog 19 #[sv] w fun e w' => (∃ v r, e = .returned v ∧ IsFour l r ∧ Rd w' v r.length 5 (spCells r) ∧ ∀ B, v.ownBlock = some B → sv.ownBlock = some B ∨ w.heap.size ≤ B) ∧ Below w.heap.size w w' := by
  rcases Nat.lt_or_ge 4 n with h | h
  · refine (four19_many sv n l w hl hv h hnear).mono ?_
    rintro e w' ⟨⟨v, C, rfl, hc, h4, hown⟩, hB⟩
    refine ⟨⟨v, (sortN C).map (spAt l), rfl, .inr ⟨by omega, C, by rw [hl]; exact hc, h4, rfl⟩, ?_⟩, hB⟩
    have e : ((sortN C).map (spAt l)).length = 4 := by rw [List.length_map, sortN_len, h4]
    rw [e]
    exact ⟨Rd.of_own hown, fun B hB => .inr (ownBlock_ge hown hB)⟩
  · refine (four19_few sv n l w hv h).mono ?_
    rintro e w' ⟨rfl, hB⟩
    exact ⟨⟨sv, l, rfl, .inl ⟨by omega, rfl⟩, by rw [hl]; exact hv.new hB, fun B hB => .inl hB⟩, hB⟩
theorem mk_near {P : List Pt} {n : Pt} {r : Int} {k : Nat} (σ : Int) (hσ : σ = 1 ∨ σ = -1) (hp : ∀ p ∈ P, Near 16777216 p) (hx : -r ≤ (n.x * r).tdiv (smallP n) ∧ (n.x * r).tdiv (smallP n) ≤ r) (hy : -r ≤ (n.y * r).tdiv (smallP n) ∧ (n.y * r).tdiv (smallP n) ≤ r) (hz : -r ≤ (n.z * r).tdiv (smallP n) ∧ (n.z * r).tdiv (smallP n) ≤ r) (hr : r ≤ 65536) : Near 67108864 (⟨(ptAt P k).x + σ * (n.x * r).tdiv (smallP n), (ptAt P k).y + σ * (n.y * r).tdiv (smallP n), (ptAt P k).z + σ * (n.z * r).tdiv (smallP n)⟩ : Pt) := by
  obtain ⟨⟨a1, a2⟩, ⟨a3, a4⟩, a5, a6⟩ := ptAt_near hp (by decide) k
  unfold Near
  simp only
  rcases hσ with rfl | rfl
  · omega
  · omega
theorem lohi24 {d : Pt} (hd : Near 16777216 d) : ∀ (l : List Pt), (∀ p ∈ l, Near 16777216 p) → (-844424930131968 ≤ loL d l ∧ loL d l ≤ 844424930131968) ∧ (-844424930131968 ≤ hiL d l ∧ hiL d l ≤ 844424930131968)
  | [], _ => by simp [loL, hiL]
  | x :: l, h => ⟨lo24 hd h, hi24 hd h⟩
end Go.Proofs.Ytpbpdgknjbjlcaa
