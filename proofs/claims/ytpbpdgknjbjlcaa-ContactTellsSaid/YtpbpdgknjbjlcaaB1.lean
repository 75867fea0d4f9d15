/- Single lemmas that no program stands in. -/
import Derived.Test.YtpbpdgknjbjlcaaOw
import Derived.Test.YtpbpdgknjbjlcaaAp
import Derived.Test.YtpbpdgknjbjlcaaRg
namespace Go.Proofs.Ytpbpdgknjbjlcaa
open Go.RowKit
def In64 (c : Int) : Prop := -9223372036854775808 ≤ c ∧ c ≤ 9223372036854775807
theorem own_new {w w' : World} {base : Nat} {e : TypeId} {v : Value} {n sz : Nat} {xs : List Value} (h : w.ownsRow base e sz v n xs) (hb : Below w.heap.size w w') : w'.ownsRow base e sz v n xs := by
  obtain ⟨h1, h2⟩ := h
  rcases h2 with ⟨rfl, rfl⟩ | ⟨g, cap, cur, rfl, hg, hh, r⟩
  · exact ⟨h1, .inl ⟨rfl, rfl⟩⟩
  · exact ⟨h1, .inr ⟨g, cap, cur, rfl, hg, by rw [hb.block g (Array.getElem?_eq_some_iff.1 hh).1]; exact hh, r⟩⟩

theorem own_lt {w : World} {base : Nat} {e : TypeId} {v : Value} {n sz : Nat} {xs : List Value} (h : w.ownsRow base e sz v n xs) {r : Nat} (hr : v.ownBlock = some r) : r < w.heap.size := by
  rcases h.2 with ⟨rfl, rfl⟩ | ⟨g, cap, cur, rfl, hg, hh, _⟩
  · simp [Value.ownBlock] at hr
  · simp [Value.ownBlock] at hr; subst hr; exact (Array.getElem?_eq_some_iff.1 hh).1
theorem Rd.grown {w w' : World} {v : Value} {n sz : Nat} {xs : List Value} {row : Option Nat} (h : Rd w v n sz xs) (hg : w.grownBy w' row) (hr : ∀ b, v.ownBlock = some b → row ≠ some b) : Rd w' v n sz xs :=
  h.same hg.size fun b hb hlt => hg.block b hlt (Ne.symm (hr b hb))
theorem Rd.take {w : World} {ao : Option Addr} {n cap sz k : Nat} {xs : List Value} (h : Rd w (.slice ao n cap) n sz xs) (hk : k ≤ n) : Rd w (.slice ao k cap) k sz (xs.take (k * sz)) := by
  obtain ⟨a, c, e, h1, h2, h3, h4⟩ := h
  simp only [Value.slice.injEq, true_and] at e
  obtain ⟨rfl, rfl⟩ := e
  have hm : k * sz ≤ n * sz := Nat.mul_le_mul_right _ hk
  refine ⟨_, _, rfl, by rw [List.length_take]; omega, by omega, h3, fun hne => ?_⟩
  obtain ⟨b, off, e, h5, h6⟩ := h4 (by omega)
  exact ⟨b, off, e, h5, fun i hi => by rw [h6 i (by omega), List.getElem?_take_of_lt hi]⟩

theorem Rd.addr {w : World} {ao : Option Addr} {n cap sz : Nat} {xs : List Value} (h : Rd w (.slice ao n cap) n sz xs) (hn : n ≠ 0) : ∃ b off, ao = some ⟨b, off, none⟩ := by
  obtain ⟨a, c, e, _, _, _, h4⟩ := h
  simp only [Value.slice.injEq, true_and] at e
  obtain ⟨rfl, rfl⟩ := e
  obtain ⟨b, off, e, _⟩ := h4 hn
  exact ⟨b, off, e⟩
theorem Rd.shape {w : World} {v : Value} {n sz : Nat} {xs : List Value} (h : Rd w v n sz xs) : ∃ a c, v = .slice a n c ∧ n ≤ c ∧ c ≤ 9223372036854775807 := by
  obtain ⟨a, c, e, _, h2, h3, _⟩ := h; exact ⟨a, c, e, h2, h3⟩
theorem Rd.int {w : World} {b off n cap : Nat} {xs : List Int} (h : Rd w (.slice (some ⟨b, off, none⟩) n cap) n 1 (ints xs)) (hl : xs.length = n) {i : Nat} (hi : i < n) : w.cell? ⟨b, off + i, none⟩ = some (.int .i64 (xs[i]?.getD 0)) := by
  rw [h.at (by omega), ints_get (by omega)]
theorem Rd.bool {w : World} {b off n cap : Nat} {xs : List Bool} (h : Rd w (.slice (some ⟨b, off, none⟩) n cap) n 1 (bools xs)) (hl : xs.length = n) {i : Nat} (hi : i < n) : w.cell? ⟨b, off + i, none⟩ = some (.bool (xs[i]?.getD false)) := by
  rw [h.at (by omega), bools_get (by omega)]

theorem Below.drewN' {B : Nat} {a w : World} (h : Below B a w) (j : Nat) : Below B a (w.drewN j) := ⟨h.os, h.tape, h.output, h.size, h.block⟩
theorem blk_rd {w : World} {b : Nat} {t : TypeId} {vs : List Value} {n sz : Nat} (h : Blk w b t vs) (hl : vs.length = n * sz) (hm : n ≤ maxLen) : Rd w (.slice (some ⟨b, 0, none⟩) n n) n sz vs := Rd.of_own (ownsRow_blk (base := 0) h hl hm (Nat.zero_le _))

theorem list_set_self {α : Type} {l : List α} {i : Nat} {v : α} (h : l[i]? = some v) : l.set i v = l := by
  obtain ⟨q, q'⟩ := List.getElem?_eq_some_iff.1 h
  rw [← q']; exact List.set_getElem_self q
theorem Mod.putObj {S : Nat → Prop} {a w : World} (h : Mod S a w) (D : Nat) (o : Obj) (hD : D < a.heap.size → S D) : Mod S a (w.putObj D o) :=
  ⟨h.os, h.tape, h.output, by simpa [World.putObj] using h.size, fun k hk hs => (World.putObj_heap_other (by rintro rfl; exact hs (hD hk))).trans (h.block k hk hs)⟩
theorem blk_type_ne {w : World} {b c : Nat} {t u : TypeId} {xs ys : List Value} (h : Blk w b t xs) (k : Blk w c u ys) (htu : t ≠ u) : b ≠ c := by
  rintro rfl
  unfold Blk at h k
  rw [h] at k
  simp at k
  exact htu k.2
theorem own_far {w w' : World} {base e : Nat} {v : Value} {n sz : Nat} {xs : List Value} {row : Option Nat} (h : w.ownsRow base e sz v n xs) (hg : w.grownBy w' row) (hne : ∀ g, v.ownBlock = some g → row ≠ some g) : w'.ownsRow base e sz v n xs := by
  obtain ⟨h1, h2⟩ := h
  rcases h2 with ⟨rfl, rfl⟩ | ⟨g, cap, cur, rfl, hgb, hh, r⟩
  · exact ⟨h1, .inl ⟨rfl, rfl⟩⟩
  · have hlt := (Array.getElem?_eq_some_iff.1 hh).1
    exact ⟨h1, .inr ⟨g, cap, cur, rfl, hgb, by rw [hg.block g hlt (Ne.symm (hne g rfl))]; exact hh, r⟩⟩
theorem Rd.block_lt {w : World} {b off n cap sz : Nat} {xs : List Value} (h : Rd w (.slice (some ⟨b, off, none⟩) n cap) n sz xs) (hn : n ≠ 0) : b < w.heap.size := by
  obtain ⟨ao, c, e, h1, h2, h3, h4⟩ := h
  obtain ⟨b', off', e2, h5, h6⟩ := h4 hn
  subst e2
  simp only [Value.slice.injEq, Option.some.injEq, Addr.mk.injEq, and_true, true_and] at e
  obtain ⟨⟨rfl, rfl⟩, _⟩ := e
  exact h5
theorem own_keep {w w' : World} {base e : Nat} {v : Value} {n sz : Nat} {xs : List Value} (h : w.ownsRow base e sz v n xs) (hb : ∀ g cur, v.ownBlock = some g → w.heap[g]? = some (.cells cur e (0, 0)) → w'.heap[g]? = w.heap[g]?) : w'.ownsRow base e sz v n xs := by
  obtain ⟨h1, h2⟩ := h
  rcases h2 with ⟨rfl, rfl⟩ | ⟨g, cap, cur, rfl, hgb, hh, r⟩
  · exact ⟨h1, .inl ⟨rfl, rfl⟩⟩
  · exact ⟨h1, .inr ⟨g, cap, cur, rfl, hgb, by rw [hb g cur rfl hh]; exact hh, r⟩⟩
theorem blk_ne_cells {w : World} {b g : Nat} {t u : TypeId} {xs : List Value} {cur : Array Value} (h : Blk w b t xs) (k : w.heap[g]? = some (.cells cur u (0, 0))) (htu : t ≠ u) : g ≠ b := by
  rintro rfl
  unfold Blk at h
  rw [h] at k
  simp at k
  exact htu k.2
theorem Blk.keep {w w' : World} {b : Nat} {t : TypeId} {vs : List Value} (h : Blk w b t vs) (hk : w'.heap[b]? = w.heap[b]?) : Blk w' b t vs := by
  unfold Blk at *; rw [hk]; exact h
theorem keep_lt {W W' : World} {b : Nat} (h : W'.heap[b]? = W.heap[b]?) (hb : b < W.heap.size) : b < W'.heap.size := by
  rw [Array.getElem?_eq_getElem hb] at h
  exact (Array.getElem?_eq_some_iff.1 h).1
theorem keepsOthers_mod {W W' : World} {S : Nat → Prop} (hM : Mod S W W') (h : ∀ b o, W.heap[b]? = some o → o.isCells = false → ¬ S b) : KeepsOthers W W' :=
  ⟨hM.size, fun b o hb ho => by
    have hl := (Array.getElem?_eq_some_iff.1 hb).1
    rw [hM.block b hl (h b o hb ho)]; exact hb⟩
theorem ints_one {xs : List Int} : ∀ u ∈ ints xs, u.oneCell' = true := by
  intro u hu
  obtain ⟨x, _, rfl⟩ := List.mem_map.1 hu
  rfl
/-- A slice that the call made itself, cut at its length: what it reads. -/
theorem own_clip {w : World} {base : Nat} {e : TypeId} {v : Value} {n sz : Nat} {xs : List Value} (h : w.ownsRow base e sz v n xs) : ∃ ao cap, v = .slice ao n cap ∧ n ≤ cap ∧ cap ≤ maxLen ∧ RdN base w (.slice ao n n) n sz xs := by
  have hr := Rd.of_own h
  obtain ⟨h1, h2⟩ := h
  rcases h2 with ⟨rfl, rfl⟩ | ⟨g, cap, cur, rfl, hg, hh, hn, hm, hsz, hx⟩
  · exact ⟨none, 0, rfl, Nat.le_refl _, by decide, hr, by simp [Value.ownBlock]⟩
  · refine ⟨_, cap, rfl, hn, hm, ?_, by simp [Value.ownBlock]; exact hg⟩
    obtain ⟨ao, cap', e, k1, k2, k3, k4⟩ := hr
    simp only [Value.slice.injEq] at e
    obtain ⟨rfl, _, rfl⟩ := e
    exact ⟨_, n, rfl, k1, Nat.le_refl _, by omega, k4⟩

def pickN (c n : Int) : Int := (if c < 0 then -(c+1) else c).tmod n
theorem pickN_range {c n : Int} (hn : 1 ≤ n) : 0 ≤ pickN c n ∧ pickN c n < n := by
  unfold pickN
  split
  · rw [Int.tmod_eq_emod_of_nonneg (by omega)]
    exact ⟨Int.emod_nonneg _ (by omega), Int.emod_lt_of_pos _ (by omega)⟩
  · rw [Int.tmod_eq_emod_of_nonneg (by omega)]
    exact ⟨Int.emod_nonneg _ (by omega), Int.emod_lt_of_pos _ (by omega)⟩
end Go.Proofs.Ytpbpdgknjbjlcaa
