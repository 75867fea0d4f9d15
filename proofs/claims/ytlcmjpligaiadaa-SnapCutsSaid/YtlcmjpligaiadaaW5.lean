/- The set's New, Has, Len, Put. -/
import Derived.Test.YtlcmjpligaiadaaW4
namespace Go.Proofs.Ytlcmjpligaiadaa
open Go.RowKit
/-- The blocks of a set. -/
def Foot (s : Nat) (v : Value) (j : Nat) : Prop := j = s ∨ v.ownBlock = some j
theorem SetAt.lt {w : World} {s base room : Nat} {v : Value} {l : List Pr} (h : SetAt w s base v room l) {j : Nat} (hj : Foot s v j) : j < w.heap.size := by
  rcases hj with rfl | hj
  · exact h.head.lt
  · exact own_lt h.own hj
theorem SetAt.mod {S : Nat → Prop} {w w' : World} {s base room : Nat} {v : Value} {l : List Pr} (h : SetAt w s base v room l) (hm : Mod S w w') (hd : ∀ j, Foot s v j → ¬ S j) : SetAt w' s base v room l :=
  ⟨h.head.mod hm (hd s (.inl rfl)), own_keep h.own (fun g _ e hc => hm.block g (Array.getElem?_eq_some_iff.1 hc).1 (hd g (.inr e))), h.rising, h.full, h.room⟩
theorem SetAt.ne {w : World} {s base room : Nat} {v : Value} {l : List Pr} (h : SetAt w s base v room l) : v.ownBlock ≠ some s := by
  intro e
  rcases h.own.2 with ⟨rfl, _⟩ | ⟨g, cap, cur, rfl, _, hh, _⟩
  · simp [Value.ownBlock] at e
  · simp [Value.ownBlock] at e; subst e
    exact blk_ne_cells h.head hh (by decide) rfl
theorem pnew_bad (room : Int) (w : World) (h : room < 1 ∨ 4096 < room) :
    Calls Try.prog 20 #[.int .i64 room] w fun e w' => e = .returned (.tuple #[.pointer none, .int .i64 1]) ∧ w = w' := by
  by_cases h1 : room < 1
  · go_enter Try.func20, Try.ntmps20
    go_wp2
    go_ret2
    exact ⟨rfl, rfl⟩
  · have h2 : 4096 < room := by omega
    clear h
    go_enter Try.func20, Try.ntmps20
    go_wp2
    go_ret2
    exact ⟨rfl, rfl⟩
theorem pnew_ok (room : Int) (n : Nat) (hn : room = (n : Int)) (base : Nat) (w : World) (h1 : 1 ≤ n) (h2 : n ≤ 4096) :
    Calls Try.prog 20 #[.int .i64 room] w fun e w' => e = .returned (.tuple #[.pointer (some ⟨w.heap.size, 0, none⟩), .int .i64 0]) ∧ SetAt w' w.heap.size base (.slice none 0 0) n [] ∧ Below w.heap.size w w' := by
  subst hn
  have n1 : (1 : Int) ≤ (n : Int) := by omega
  have n2 : (n : Int) ≤ 4096 := by omega
  go_enter Try.func20, Try.ntmps20
  go_wp2
  go_ret2
  exact ⟨rfl, ⟨Blk.new w 96 [_, _], World.ownsRow_nil _ _ _ _, List.Pairwise.nil, Nat.zero_le _, ⟨h1, h2⟩⟩, (Below.refl _ w).alloc (Nat.le_refl _) _⟩
theorem has_any (s base room : Nat) (v : Value) (l : List Pr) (p : Pr) (w : World) (hs : SetAt w s base v room l) :
    Calls Try.prog 24 #[.pointer (some ⟨s, 0, none⟩), .agg #[.int .i64 p.1, .int .i64 p.2]] w fun e w' => e = .returned (.bool (hasP l p)) ∧ Below w.heap.size w w' := by
  obtain ⟨p1, p2⟩ := p
  have B0 : Below w.heap.size w (w.alloc (.cells #[.int .i64 p1, .int .i64 p2] 42)) := (Below.refl _ w).alloc (Nat.le_refl _) _
  go_enter Try.func24, Try.ntmps24
  go_wp2_with fail
  refine (find_any s base room v l (p1, p2) _ (hs.new B0)).mono ?_
  rintro e w' ⟨rfl, B1⟩
  go_wp2
  go_ret
  exact ⟨rfl, B0.trans (B1.mono (by simp))⟩
theorem plen_any (s base room : Nat) (v : Value) (l : List Pr) (w : World) (hs : SetAt w s base v room l) :
    Calls Try.prog 25 #[.pointer (some ⟨s, 0, none⟩)] w fun e w' => e = .returned (.int .i64 l.length) ∧ w = w' := by
  obtain ⟨sa, sc, rfl, s1, s2⟩ := hs.rd.shape
  have c0 := hs.head.cell 0
  simp only [List.getElem?_cons_zero] at c0
  generalize l.length = n at c0 ⊢
  go_enter Try.func25, Try.ntmps25
  go_wp2
  go_ret
  exact ⟨rfl, rfl⟩
def canPut (room : Nat) (l : List Pr) (p : Pr) : Bool := decide (p.1 < p.2) && !hasP l p && decide (l.length < room)
def putS (room : Nat) (l : List Pr) (p : Pr) : List Pr := if canPut room l p = true then putP l p else l
def putE (room : Nat) (l : List Pr) (p : Pr) : Int := if ¬ p.1 < p.2 then 1 else if hasP l p = true then 0 else if l.length < room then 0 else 40
def PutPost (s base room : Nat) (v : Value) (l : List Pr) (p : Pr) (w : World) (e : Ending) (w' : World) : Prop :=
  e = .returned (.tuple #[.bool (canPut room l p), .int .i64 (putE room l p)]) ∧ ∃ v', SetAt w' s base v' room (putS room l p) ∧ Mod (Foot s v) w w' ∧ ∀ j, Foot s v' j → Foot s v j ∨ w.heap.size ≤ j
theorem own_ne {w : World} {base e n sz b : Nat} {v : Value} {t : TypeId} {xs vs : List Value} (h : w.ownsRow base e sz v n xs) (hb : Blk w b t vs) (hte : t ≠ e) : v.ownBlock ≠ some b := by
  intro e1
  rcases h.2 with ⟨rfl, _⟩ | ⟨g, cap, cur, rfl, _, hh, _⟩
  · simp [Value.ownBlock] at e1
  · simp [Value.ownBlock] at e1; subst e1
    exact blk_ne_cells hb hh hte rfl
theorem below_mod {S : Nat → Prop} {w w' : World} (h : Below w.heap.size w w') : Mod S w w' := Mod.of_below h (fun k h1 h2 => by omega)
set_option maxRecDepth 100000 in
set_option maxHeartbeats 4000000 in
theorem put_any (s base room : Nat) (v : Value) (l : List Pr) (p : Pr) (w : World) (hb : base ≤ w.heap.size) (hs : SetAt w s base v room l) :
    Calls Try.prog 21 #[.pointer (some ⟨s, 0, none⟩), .agg #[.int .i64 p.1, .int .i64 p.2]] w (PutPost s base room v l p w) := by
  obtain ⟨p1, p2⟩ := p
  go_enter Try.func21, Try.ntmps21
  go_wp2_with fail
  obtain ⟨W0, hW0⟩ : ∃ W0, w.alloc (.cells #[.int .i64 p1, .int .i64 p2] 42) = W0 := ⟨_, rfl⟩
  have x0 : Blk W0 w.heap.size 42 [.int .i64 p1, .int .i64 p2] := by rw [← hW0]; exact Blk.new w 42 [_, _]
  have B0 : Below w.heap.size w W0 := by rw [← hW0]; exact (Below.refl _ w).alloc (Nat.le_refl _) _
  have hs0 := hs.new B0
  rw [hW0]
  clear hW0
  refine (find_any s base room v l (p1, p2) _ hs0).mono ?_
  rintro e w1 ⟨rfl, B1⟩
  have B01 : Below w.heap.size w w1 := B0.trans (B1.mono B0.size)
  have hs1 := hs0.new B1
  have x1 := x0.below B1 x0.lt
  have e0 := x1.cell 0
  have e1 := x1.cell 1
  simp only [List.getElem?_cons_zero, List.getElem?_cons_succ] at e0 e1
  by_cases hlt : p1 < p2
  · have hge : ¬ p2 ≤ p1 := by omega
    cases hhas : hasP l (p1, p2) with
    | true =>
      have hf1 : canPut room l (p1, p2) = false := by simp [canPut, hhas]
      have hf2 : putE room l (p1, p2) = 0 := by simp [putE, hhas, hlt]
      have hf3 : putS room l (p1, p2) = l := by simp [putS, hf1]
      have Hf1 := Lib.hid hf1
      have Hf2 := Lib.hid hf2
      have Hf3 := Lib.hid hf3
      clear hf1 hf2 hf3 hhas
      go_wp2
      go_ret2
      exact ⟨by rw [Hf1.out, Hf2.out]; rfl, v, by rw [Hf3.out]; exact hs1, below_mod B01, fun j h => .inl h⟩
    | false =>
      have hrd1 := hs1.rd
      obtain ⟨sa, sc, rfl, s1, s2⟩ := hrd1.shape
      have c0 := hs1.head.cell 0
      have c1 := hs1.head.cell 1
      simp only [List.getElem?_cons_zero, List.getElem?_cons_succ] at c0 c1
      obtain ⟨n, hn⟩ : ∃ n, n = l.length := ⟨_, rfl⟩
      have hn4 := hs1.len
      have hrm := hs1.room
      have Hown := Lib.hid hs1.own
      by_cases hfull : room ≤ l.length
      · have hf1 : canPut room l (p1, p2) = false := by simp [canPut]; omega
        have hf2 : putE room l (p1, p2) = 40 := by simp [putE, hhas, hlt, show ¬ l.length < room by omega]
        have hf3 : putS room l (p1, p2) = l := by simp [putS, hf1]
        have Hf1 := Lib.hid hf1
        have Hf2 := Lib.hid hf2
        have Hf3 := Lib.hid hf3
        have hfi : (room : Int) ≤ (l.length : Int) := by omega
        clear hf1 hf2 hf3 hhas hn
        go_wp2
        go_quiet (fail)
        go_wp2
        go_ret2
        exact ⟨by rw [Hf1.out, Hf2.out]; rfl, _, by rw [Hf3.out]; exact hs1.new (Below.drewN' (Below.refl _ _) _), below_mod (Below.drewN' B01 _), fun j h => .inl h⟩
      · have hf1 : canPut room l (p1, p2) = true := by simp [canPut, hlt, hhas]; omega
        have hf2 : putE room l (p1, p2) = 0 := by simp [putE, hhas, hlt, show l.length < room by omega]
        have hf3 : putS room l (p1, p2) = insP l (idxP l (p1, p2)) (p1, p2) := by simp [putS, hf1, putP, insP]
        have hnew : (p1, p2) ∉ l := by simpa [hasP] using hhas
        have hrise := putP_rising hs1.rising hnew
        have hplen := putP_len l (p1, p2)
        have hkle := idxP_le l (p1, p2)
        have hne := hs1.ne
        have hlt0 : ∀ r, (Value.slice sa l.length sc).ownBlock = some r → r < w.heap.size := fun r e => own_lt hs.own e
        have hhead := hs1.head
        rw [← hn] at hlt0 hhead hne
        have Hlt0 := Lib.hid hlt0
        have Hhead := Lib.hid hhead
        have Hf1 := Lib.hid hf1
        have Hf2 := Lib.hid hf2
        have Hf3 := Lib.hid hf3
        have hfro := hs1.head.frozen 0
        rw [← hn] at s1 c0 hkle hn4 hfull ⊢
        have hown' : w1.ownsRow base 42 2 (.slice sa n sc) n (pairCells l) := by have := hs1.own; rw [← hn] at this; exact this
        have Hown' := Lib.hid hown'
        clear hown'
        have Hn := Lib.hid hn
        have hfi : ¬ (room : Int) ≤ (n : Int) := by omega
        have hB1 := B01.size
        have hins := fun W (hb' : base ≤ W.heap.size) (ho : W.ownsRow base 42 2 (.slice sa n sc) n (pairCells l)) g (hp : Blk W g 42 [.int .i64 p1, .int .i64 p2]) hg => insert_any base g (.slice sa n sc) n (idxP l (p1, p2)) l (p1, p2) Hn.out.symm (by omega) hkle W hb' ho hp hg
        obtain ⟨k, hk⟩ : ∃ k, k = idxP l (p1, p2) := ⟨_, rfl⟩
        rw [← hk] at hins hkle ⊢
        have Hk := Lib.hid hk
        have Hins := Lib.hid hins
        have Hrise := Lib.hid hrise
        have Hplen := Lib.hid hplen
        have hss := hs1.head.lt
        have hownlt : ∀ r, (Value.slice sa n sc).ownBlock = some r → r < w1.heap.size := fun r e => own_lt Hown.out (by rw [← Hn.out]; exact e)
        have Hownlt := Lib.hid hownlt
        have hxb := x1.lt
        clear hf1 hf2 hf3 hhas hn hk hins hrise hplen hnew hownlt hlt0 hhead
        go_wp2
        go_quiet (fail)
        go_wp2_with fail
        have hcs : ∀ m o, ((w1.drewN m).alloc o).cell? ⟨s, 0, none⟩ = some (.slice sa n sc) := fun m o => by simpa using ((Hhead.out.drewN m).alloc o).cell 0
        have hcx : ∀ m o, ((w1.drewN m).alloc o).cell? ⟨w.heap.size, 0, none⟩ = some (.int .i64 p1) := fun m o => by simpa using ((x1.drewN m).alloc o).cell 0
        have hcy : ∀ m o, ((w1.drewN m).alloc o).cell? ⟨w.heap.size, 1, none⟩ = some (.int .i64 p2) := fun m o => by simpa using ((x1.drewN m).alloc o).cell 1
        go_region_with
          ((go_at_call 61
            refine (Hins.out _ (by simp; omega) (by exact own_new Hown'.out ((Below.drewN' (Below.refl _ _) _).alloc (Nat.le_refl _) _)) w1.heap.size (by exact Blk.newAt rfl 42 [_, _]) (by intro e; have := Hownlt.out _ e; omega)).mono ?_
            rintro e w5 ⟨v5, rfl, o5, m5, q5⟩
            obtain ⟨va, vc, rfl, _, _⟩ := (Rd.of_own o5).shape
            have hd5 := ((Hhead.out.drewN _).alloc _).mod m5 hne
            have x5 := ((x1.drewN _).alloc _).mod m5 (fun e => by have := Hlt0.out _ e; omega)
            have k50 := hd5.cell 0
            have k51 := x5.cell 0
            have k52 := x5.cell 1
            have f50 := hd5.frozen 0
            have M5 : Mod (Foot s (.slice sa n sc)) w w5 := (below_mod B01).trans ((below_mod ((Below.drewN' (Below.refl _ _) _).alloc (Nat.le_refl _) _)).trans (m5.mono (fun j _ e => .inr e)))
            have Q5 : ∀ r, (Value.slice va (l.length + 1) vc).ownBlock = some r → (Value.slice sa n sc).ownBlock = some r ∨ w.heap.size ≤ r := fun r e => by
              rcases q5 r e with h | h
              · exact .inl h
              · simp at h; exact .inr (by omega)
            have hn5 := own_ne o5 hd5 (by decide)
            simp only [List.getElem?_cons_zero, List.getElem?_cons_succ] at k50 k51 k52))
        all_goals
          go_wp2
          go_ret2
          rw [Hk.out] at o5
          refine ⟨by rw [Hf1.out, Hf2.out]; rfl, .slice va (l.length + 1) vc, ⟨hd5.set 0 _, ?_, ?_, ?_, hrm⟩, ?_, ?_⟩
          · rw [Hf3.out]
            have hq : (insP l (idxP l (p1, p2)) (p1, p2)).length = l.length + 1 := Hplen.out
            rw [hq]
            exact ownsRow_setCell_other (a := ⟨s, 0, none⟩) o5 hn5 _
          · rw [Hf3.out]; exact Hrise.out
          · rw [Hf3.out]
            have hq : (insP l (idxP l (p1, p2)) (p1, p2)).length = l.length + 1 := Hplen.out
            rw [hq]
            have := Hn.out
            omega
          · rw [← Hn.out]
            exact M5.setCell (p := ⟨s, 0, none⟩) (fun _ => .inl rfl) _
          · rw [← Hn.out]
            rintro j (rfl | h)
            · exact .inl (.inl rfl)
            · rcases Q5 j (by rw [← Hn.out]; exact h) with h | h
              · exact .inl (.inr h)
              · exact .inr h
  · have hge : p2 ≤ p1 := by omega
    have hf1 : canPut room l (p1, p2) = false := by simp [canPut, hlt]
    have hf2 : putE room l (p1, p2) = 1 := by simp [putE, hlt]
    have hf3 : putS room l (p1, p2) = l := by simp [putS, hf1]
    have Hf1 := Lib.hid hf1
    have Hf2 := Lib.hid hf2
    have Hf3 := Lib.hid hf3
    clear hf1 hf2 hf3
    go_wp2
    go_ret2
    exact ⟨by rw [Hf1.out, Hf2.out]; rfl, v, by rw [Hf3.out]; exact hs1, below_mod B01, fun j h => .inl h⟩
end Go.Proofs.Ytlcmjpligaiadaa
