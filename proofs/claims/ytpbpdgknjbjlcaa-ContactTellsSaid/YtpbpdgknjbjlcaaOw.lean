/- Slices of the call's own: told apart, stored into. No program here. -/
import Derived.Test.YtpbpdgknjbjlcaaBase
namespace Go.Proofs.Ytpbpdgknjbjlcaa
open Go.RowKit
theorem own_mod {S : Nat → Prop} {w w' : World} {base : Nat} {e : TypeId} {v : Value} {n sz : Nat} {xs : List Value} (h : w.ownsRow base e sz v n xs) (hm : Mod S w w') (hs : ∀ j, base ≤ j → j < w.heap.size → ¬ S j) : w'.ownsRow base e sz v n xs := by
  obtain ⟨h1, h2⟩ := h
  rcases h2 with ⟨rfl, rfl⟩ | ⟨g, cap, cur, rfl, hg, hh, r⟩
  · exact ⟨h1, .inl ⟨rfl, rfl⟩⟩
  · have hlt := (Array.getElem?_eq_some_iff.1 hh).1
    exact ⟨h1, .inr ⟨g, cap, cur, rfl, hg, by rw [hm.block g hlt (hs g hg hlt)]; exact hh, r⟩⟩
theorem own_grown {w w' : World} {base e f : Nat} {v u : Value} {n k sz sy : Nat} {xs ys : List Value} (h : w.ownsRow base e sz v n xs) (hu : w.ownsRow base f sy u k ys) (hef : e ≠ f) (hg : w.grownBy w' u.ownBlock) : w'.ownsRow base e sz v n xs := by
  obtain ⟨h1, h2⟩ := h
  rcases h2 with ⟨rfl, rfl⟩ | ⟨g, cap, cur, rfl, hgb, hh, r⟩
  · exact ⟨h1, .inl ⟨rfl, rfl⟩⟩
  · have hlt := (Array.getElem?_eq_some_iff.1 hh).1
    have hne : u.ownBlock ≠ some g := by
      intro e1
      rcases hu.2 with ⟨rfl, _⟩ | ⟨g', cap', cur', rfl, _, hh', _⟩
      · simp [Value.ownBlock] at e1
      · simp [Value.ownBlock] at e1
        subst e1
        rw [hh] at hh'
        simp at hh'
        exact hef hh'.2
    exact ⟨h1, .inr ⟨g, cap, cur, rfl, hgb, by rw [hg.block g hlt (Ne.symm hne)]; exact hh, r⟩⟩
theorem blk_grown {w w' : World} {base t f : Nat} {u : Value} {b k sy : Nat} {vs ys : List Value} (h : Blk w b t vs) (hu : w.ownsRow base f sy u k ys) (hef : t ≠ f) (hg : w.grownBy w' u.ownBlock) : Blk w' b t vs := by
  refine h.grown hg ?_
  intro e1
  rcases hu.2 with ⟨rfl, _⟩ | ⟨g', cap', cur', rfl, _, hh', _⟩
  · simp [Value.ownBlock] at e1
  · simp [Value.ownBlock] at e1
    subst e1
    unfold Blk at h
    rw [h] at hh'
    simp at hh'
    exact hef hh'.2
theorem own_shape {w : World} {base e n sz : Nat} {v : Value} {xs : List Value} (h : w.ownsRow base e sz v n xs) (hn : n ≠ 0) : ∃ g cap, v = .slice (some ⟨g, 0, none⟩) n cap := by
  rcases h.2 with ⟨_, rfl⟩ | ⟨g, cap, cur, rfl, _⟩
  · exact (hn rfl).elim
  · exact ⟨g, cap, rfl⟩
theorem own_frozen {w : World} {base e n sz g cap : Nat} {xs : List Value} (h : w.ownsRow base e sz (.slice (some ⟨g, 0, none⟩) n cap) n xs) (k : Nat) : w.frozen? ⟨g, k, none⟩ = false := by
  rcases h.2 with ⟨h1, _⟩ | ⟨g', cap', cur, h1, _, hh, _⟩
  · cases h1
  · simp at h1
    obtain ⟨rfl, rfl⟩ := h1
    simp [World.frozen?, hh]
theorem own_set {w : World} {base e n g cap k : Nat} {xs : List Value} (h : w.ownsRow base e 1 (.slice (some ⟨g, 0, none⟩) n cap) n xs) (_hk : k < n) (v : Value) : (w.setCell ⟨g, k, none⟩ v).ownsRow base e 1 (.slice (some ⟨g, 0, none⟩) n cap) n (xs.set k v) := by
  obtain ⟨h0, h2⟩ := h
  rcases h2 with ⟨h1, _⟩ | ⟨g', cap', cur, h1, hg, hh, hn, hm, hsz, hx⟩
  · cases h1
  · simp at h1
    obtain ⟨rfl, rfl⟩ := h1
    refine ⟨by simpa using h0, .inr ⟨g, cap, cur.setIfInBounds k v, rfl, hg, by simp [World.setCell, Array.getElem?_modify, hh], hn, hm, by simpa using hsz, ?_⟩⟩
    rw [Array.toList_setIfInBounds, ← hx]
    rw [List.take_set]
theorem own_other {w : World} {base e f n k sz sy : Nat} {v u : Value} {xs ys : List Value} {g : Nat} (h : w.ownsRow base e sz v n xs) (hu : w.ownsRow base f sy u k ys) (hef : e ≠ f) (hb : u.ownBlock = some g) : v.ownBlock ≠ some g := by
  intro e1
  rcases h.2 with ⟨rfl, _⟩ | ⟨g1, c1, cur1, rfl, _, hh1, _⟩
  · simp [Value.ownBlock] at e1
  · rcases hu.2 with ⟨rfl, _⟩ | ⟨g2, c2, cur2, rfl, _, hh2, _⟩
    · simp [Value.ownBlock] at hb
    · simp [Value.ownBlock] at e1 hb
      subst e1; subst hb
      rw [hh1] at hh2
      simp at hh2
      exact hef hh2.2
theorem bools_set (l : List Bool) (k : Nat) (b : Bool) : (bools l).set k (.bool b) = bools (l.set k b) := by
  simp [bools, List.map_set]
end Go.Proofs.Ytpbpdgknjbjlcaa
