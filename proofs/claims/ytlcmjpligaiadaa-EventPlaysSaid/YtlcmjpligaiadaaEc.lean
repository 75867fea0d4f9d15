/- Event queues whose ring may have room behind: the walks of E1 to E4 over again. -/
import Derived.Test.YtlcmjpligaiadaaE6
namespace Go.Proofs.Ytlcmjpligaiadaa
open Go.RowKit
theorem evx_get {X : List Ev} (E : List Value) {k : Nat} {e : Ev} (h : X[k]? = some e) : (evCells X ++ E)[k * 3]? = some (.int .i64 e.kind) ∧ (evCells X ++ E)[k * 3 + 1]? = some (.int .i64 e.a) ∧ (evCells X ++ E)[k * 3 + 2]? = some (.int .i64 e.b) := by
  obtain ⟨y0, y1, y2⟩ := ev_get h
  have hk := (List.getElem?_eq_some_iff.1 h).1
  have hl := ev_len X
  exact ⟨(List.getElem?_append_left (by omega)).trans y0, (List.getElem?_append_left (by omega)).trans y1, (List.getElem?_append_left (by omega)).trans y2⟩
theorem evx_set (X : List Ev) (E : List Value) (i : Nat) (e : Ev) (h : i < X.length) : (((evCells X ++ E).set (i * 3) (.int .i64 e.kind)).set (i * 3 + 1) (.int .i64 e.a)).set (i * 3 + 2) (.int .i64 e.b) = evCells (X.set i e) ++ E := by
  have hl := ev_len X
  rw [List.set_append_left _ _ (by omega), List.set_append_left _ _ (by rw [List.length_set]; omega), List.set_append_left _ _ (by rw [List.length_set, List.length_set]; omega), ev_set X i e h]
/-- A queue at q whose ring is the head of block g. -/
structure QC (w : World) (q g n c f m : Nat) (L : List Ev) : Prop where
  head : Blk w q 106 [.slice (some ⟨g, 0, none⟩) n c, .int .i64 f, .int .i64 m]
  ring : ∃ (X : List Ev) (E : List Value), Blk w g 56 (evCells X ++ E) ∧ X.length = n ∧ ∀ i, i < m → X[(f + i) % n]? = L[i]?
  len : L.length = m
  full : m ≤ n
  at' : f < n
  room : n ≤ 1024
  cap : n ≤ c ∧ c ≤ 9223372036854775807
theorem QC.of {w : World} {q g n f m : Nat} {L : List Ev} (h : QAt w q g n f m L) : QC w q g n n f m L := by
  obtain ⟨X, h1, h2⟩ := h.ring
  exact ⟨h.head, ⟨X, [], by simpa using h1, h2⟩, h.len, h.full, h.at', h.room, Nat.le_refl _, by have := h.room; omega⟩
theorem QC.new {w w' : World} {q g n c f m : Nat} {L : List Ev} (h : QC w q g n c f m L) (hB : Below w.heap.size w w') : QC w' q g n c f m L := by
  obtain ⟨X, E, h1, h2, h3⟩ := h.ring
  exact ⟨h.head.below hB h.head.lt, ⟨X, E, h1.below hB h1.lt, h2, h3⟩, h.len, h.full, h.at', h.room, h.cap⟩
theorem QC.mod {S : Nat → Prop} {w w' : World} {q g n c f m : Nat} {L : List Ev} (h : QC w q g n c f m L) (hM : Mod S w w') (hq : ¬ S q) (hg : ¬ S g) : QC w' q g n c f m L := by
  obtain ⟨X, E, h1, h2, h3⟩ := h.ring
  exact ⟨h.head.mod hM hq, ⟨X, E, h1.mod hM hg, h2, h3⟩, h.len, h.full, h.at', h.room, h.cap⟩
theorem QC.glt {w : World} {q g n c f m : Nat} {L : List Ev} (h : QC w q g n c f m L) : g < w.heap.size := by
  obtain ⟨X, E, h1, _⟩ := h.ring
  exact h1.lt
theorem QC.ne {w : World} {q g n c f m : Nat} {L : List Ev} (h : QC w q g n c f m L) : q ≠ g := by
  obtain ⟨X, E, h1, _⟩ := h.ring
  exact blk_type_ne h.head h1 (by decide)
theorem atc_any (q g n c f m : Nat) (L : List Ev) (k : Nat) (hk : k ≤ 1024) (w : World) (h : QC w q g n c f m L) :
    Calls Try.prog 66 #[.pointer (some ⟨q, 0, none⟩), .int .i64 (k : Int)] w fun e w' => e = .returned (.int .i64 (((f + k) % n : Nat) : Int)) ∧ ∃ d, w' = w.drewN d := by
  have c0 := h.head.cell 0
  have c1 := h.head.cell 1
  simp only [List.getElem?_cons_zero, List.getElem?_cons_succ] at c0 c1
  have h1 := h.at'
  have h2 := h.room
  have h3 : (f : Int) ≤ 1024 := by omega
  have h4 : (k : Int) ≤ 1024 := by omega
  have h5 : ((n : Int) == 0) = false := by simp; omega
  have h6 : ¬ (n : Int) = 0 := by omega
  go_enter Try.func66, Try.ntmps66
  go_wp2
  go_quiet (fail)
  go_wp2
  go_ret
  exact ⟨by rfl, _, rfl⟩
theorem freec_any (q g n c f m : Nat) (L : List Ev) (w : World) (h : QC w q g n c f m L) :
    Calls Try.prog 35 #[.pointer (some ⟨q, 0, none⟩)] w fun e w' => e = .returned (.int .i64 ((n - m : Nat) : Int)) ∧ ∃ d, w' = w.drewN d := by
  have c0 := h.head.cell 0
  have c2 := h.head.cell 2
  simp only [List.getElem?_cons_zero, List.getElem?_cons_succ] at c0 c2
  have h1 := h.full
  have h2 := h.room
  have h3 : (m : Int) ≤ 1024 := by omega
  have h4 : (n : Int) ≤ 1024 := by omega
  have h5 := Lib.hid (show (n : Int) - (m : Int) = ((n - m : Nat) : Int) by omega)
  go_enter Try.func35, Try.ntmps35
  go_wp2
  go_quiet (fail)
  go_wp2
  go_ret
  exact ⟨ret_int h5.out, _, rfl⟩
theorem atc_b (q g n c f m : Nat) (L : List Ev) (k p : Nat) (hk : k ≤ 1024) (hp : (f + k) % n = p) (w : World) (h : QC w q g n c f m L) :
    Calls Try.prog 66 #[.pointer (some ⟨q, 0, none⟩), .int .i64 (k : Int)] w fun e w' => e = .returned (.int .i64 (p : Int)) ∧ Below w.heap.size w w' :=
  (atc_any q g n c f m L k hk w h).mono fun e w' ⟨he, d, hw⟩ => by
    subst hw; subst hp
    exact ⟨he, Below.drewN' (Below.refl _ _) d⟩
theorem qc_put {w : World} {q g n c f m p : Nat} {L : List Ev} (h : QC w q g n c f m L) (hm : m < n) (hp : (f + m) % n = p) (e : Ev) :
    QC ((set3 w g p e).setCell ⟨q, 2, none⟩ (.int .i64 ((m + 1 : Nat) : Int))) q g n c f (m + 1) (L ++ [e]) ∧ Mod (fun j => j = q ∨ j = g) w ((set3 w g p e).setCell ⟨q, 2, none⟩ (.int .i64 ((m + 1 : Nat) : Int))) := by
  have hne := h.ne
  obtain ⟨X, E, h1, h2, h3⟩ := h.ring
  have hfn := h.at'
  have hpn : p < n := by rw [← hp]; exact Nat.mod_lt _ (by omega)
  have hLm := h.len
  refine ⟨⟨?_, ⟨X.set p e, E, ?_, by simpa using h2, fun i hi => ?_⟩, by simp [h.len], by omega, h.at', h.room, h.cap⟩, ?_⟩
  · exact ((((h.head.setCell_ne (p := ⟨g, p * 3, none⟩) hne _).setCell_ne (p := ⟨g, p * 3 + 1, none⟩) hne _).setCell_ne (p := ⟨g, p * 3 + 2, none⟩) hne _).set 2 _)
  · have := (((h1.set (p * 3) (.int .i64 e.kind)).set (p * 3 + 1) (.int .i64 e.a)).set (p * 3 + 2) (.int .i64 e.b)).setCell_ne (p := ⟨q, 2, none⟩) (Ne.symm hne) (.int .i64 ((m + 1 : Nat) : Int))
    rw [evx_set X E p e (by omega)] at this
    exact this
  · rw [wrapN hfn (by omega)]
    rw [wrapN hfn (by omega)] at hp
    rcases Nat.lt_or_ge i m with hi2 | hi2
    · have := h3 i hi2
      rw [wrapN hfn (by omega)] at this
      rw [List.getElem?_set_ne (by split at hp <;> split <;> omega), this, List.getElem?_append_left (by omega)]
    · obtain rfl : i = m := by omega
      rw [hp, List.getElem?_set_self (by omega), List.getElem?_append_right (by omega)]
      simp [hLm]
  · exact Mod.setCell (S := fun j => j = q ∨ j = g) (p := ⟨q, 2, none⟩) (Mod.setCell (p := ⟨g, p * 3 + 2, none⟩) (Mod.setCell (p := ⟨g, p * 3 + 1, none⟩) (Mod.setCell (p := ⟨g, p * 3, none⟩) (Mod.refl _ w) (fun _ => .inr rfl) _) (fun _ => .inr rfl) _) (fun _ => .inr rfl) _) (fun _ => .inl rfl) _
theorem qc_take {w : World} {q g n c f m : Nat} {e : Ev} {L : List Ev} (h : QC w q g n c f (m + 1) (e :: L)) :
    QC ((w.setCell ⟨q, 1, none⟩ (.int .i64 (((f + 1) % n : Nat) : Int))).setCell ⟨q, 2, none⟩ (.int .i64 ((m : Nat) : Int))) q g n c ((f + 1) % n) m L ∧ Mod (fun j => j = q) w ((w.setCell ⟨q, 1, none⟩ (.int .i64 (((f + 1) % n : Nat) : Int))).setCell ⟨q, 2, none⟩ (.int .i64 ((m : Nat) : Int))) := by
  have hne := h.ne
  obtain ⟨X, E, h1, h2, h3⟩ := h.ring
  have hfn := h.at'
  have hmn := h.full
  refine ⟨⟨?_, ⟨X, E, ?_, h2, fun i hi => ?_⟩, by have := h.len; simpa using this, by omega, Nat.mod_lt _ (by omega), h.room, h.cap⟩, ?_⟩
  · exact (h.head.set 1 _).set 2 _
  · exact (h1.setCell_ne (p := ⟨q, 1, none⟩) (Ne.symm hne) _).setCell_ne (p := ⟨q, 2, none⟩) (Ne.symm hne) _
  · have := h3 (i + 1) (by omega)
    rw [List.getElem?_cons_succ] at this
    rw [← this]
    congr 1
    rw [Nat.add_mod, Nat.mod_mod, ← Nat.add_mod]
    congr 1
    omega
  · exact Mod.setCell (S := fun j => j = q) (p := ⟨q, 2, none⟩) (Mod.setCell (S := fun j => j = q) (p := ⟨q, 1, none⟩) (Mod.refl _ w) (fun _ => rfl) _) (fun _ => rfl) _
set_option maxRecDepth 100000 in
set_option maxHeartbeats 1000000 in
theorem takec_none (q g n c f : Nat) (w : World) (h : QC w q g n c f 0 []) :
    Calls Try.prog 32 #[.pointer (some ⟨q, 0, none⟩)] w fun e w' => e = .returned (.tuple #[encVal ⟨0, 0, 0⟩, .bool false]) ∧ Below w.heap.size w w' := by
  have c2 : w.cell? ⟨q, 2, none⟩ = some (.int .i64 0) := h.head.cell 2
  have hq := h.head.lt
  go_enter Try.func32, Try.ntmps32
  go_wp2
  refine bodyPost_ret (v := .tuple #[encVal ⟨0, 0, 0⟩, .bool false]) (by simp [results, Try.f32, go_sem, encVal]) rfl ⟨rfl, ?_⟩
  repeat' (first | exact Below.refl _ _ | refine Below.drew ?_ | refine Below.alloc ?_ (by simp) _)
def TakeC (q g n c f m : Nat) (e : Ev) (L : List Ev) (w : World) (r : Ending) (w' : World) : Prop :=
  r = .returned (.tuple #[encVal e, .bool true]) ∧ QC w' q g n c ((f + 1) % n) m L ∧ Mod (fun j => j = q) w w'
set_option maxRecDepth 100000 in
set_option maxHeartbeats 2000000 in
theorem takec_some (q g n c f m : Nat) (e : Ev) (L : List Ev) (w : World) (h : QC w q g n c f (m + 1) (e :: L)) :
    Calls Try.prog 32 #[.pointer (some ⟨q, 0, none⟩)] w (TakeC q g n c f m e L w) := by
  obtain ⟨X, E, h1, h2, h3⟩ := h.ring
  have hf := h.at'
  have hr := h.room
  have hcap := h.cap
  have hmn := h.full
  have x0 := h3 0 (by omega)
  rw [Nat.add_zero, Nat.mod_eq_of_lt hf, List.getElem?_cons_zero] at x0
  obtain ⟨y0, y1, y2⟩ := evx_get E x0
  have z0 := (h1.cell (f * 3)).trans y0
  have z1 := (h1.cell (f * 3 + 1)).trans y1
  have z2 := (h1.cell (f * 3 + 2)).trans y2
  have c0 := h.head.cell 0
  have c1 := h.head.cell 1
  have c2 := h.head.cell 2
  have k1 := h.head.frozen 1
  have k2 := h.head.frozen 2
  simp only [List.getElem?_cons_zero, List.getElem?_cons_succ] at c0 c1 c2
  obtain ⟨ek, ea, eb⟩ := e
  simp only at z0 z1 z2
  have hq := h.head.lt
  have hg := h1.lt
  have hfI : (f : Int) < (n : Int) := by omega
  have hf0 : (0 : Int) ≤ (f : Int) := by omega
  have hm0 : (((m + 1 : Nat) : Int) == 0) = false := by simp; omega
  have hat : ∀ W, QC W q g n c f (m + 1) (⟨ek, ea, eb⟩ :: L) → Calls Try.prog 66 #[.pointer (some ⟨q, 0, none⟩), .int .i64 1] W fun e w' => e = .returned (.int .i64 (((f + 1) % n : Nat) : Int)) ∧ ∃ d, w' = W.drewN d := fun W hW => atc_any q g n c f (m + 1) _ 1 (by omega) W hW
  obtain ⟨f', hf'⟩ : ∃ f', f' = (f + 1) % n := ⟨_, rfl⟩
  rw [← hf'] at hat
  have Hat := Lib.hid hat
  have hmI : ((m + 1 : Nat) : Int) ≤ 1024 := by omega
  clear h1 h2 h3 x0 y0 y1 y2 hat
  obtain ⟨M, hM⟩ : ∃ M, M = m + 1 := ⟨_, rfl⟩
  have HM := Lib.hid hM
  rw [← hM] at c2 hm0 hmI
  clear hM
  go_enter Try.func32, Try.ntmps32
  go_wp2
  have Hf' := Lib.hid hf'
  clear hf'
  go_region_held3 (fun wx => wx.cell? ⟨q, 0, none⟩ = some (.slice (some ⟨g, 0, none⟩) n c) ∧ wx.cell? ⟨q, 1, none⟩ = some (.int .i64 (f : Int)) ∧ wx.cell? ⟨g, f * 3, none⟩ = some (.int .i64 ek) ∧ wx.cell? ⟨g, f * 3 + 1, none⟩ = some (.int .i64 ea) ∧ wx.cell? ⟨g, f * 3 + 2, none⟩ = some (.int .i64 eb)) (go_keep) (fail)
  go_wp2_with fail
  refine (Hat.out _ (h.new ?hB)).mono ?_
  case hB => repeat' (first | exact Below.refl _ _ | refine Below.drew ?_ | refine Below.alloc ?_ (by simp) _)
  rintro r w5 ⟨rfl, d, rfl⟩
  go_wp2
  refine bodyPost_ret (v := .tuple #[encVal ⟨ek, ea, eb⟩, .bool true]) (by simp [results, Try.f32, go_sem, encVal]) rfl ⟨rfl, ?_⟩
  have hMm : ((M : Int) - 1) = (m : Int) := by rw [HM.out]; omega
  rw [hMm, Hf'.out]
  generalize hW1 : World.drewN _ _ = W1
  have B1 : Below w.heap.size w W1 := by
    rw [← hW1]
    exact Below.drewN' (((Below.refl _ w).alloc (Nat.le_refl _) _).alloc (by simp) _) _
  have Q1 := h.new B1
  obtain ⟨Q2, M2⟩ := qc_take Q1
  have hg2 : ¬ g = w.heap.size := by omega
  have hq2 : ¬ q = w.heap.size := by omega
  have N1 : Mod (fun j => j = w.heap.size) ((W1.setCell ⟨q, 1, none⟩ (.int .i64 (((f + 1) % n : Nat) : Int))).setCell ⟨q, 2, none⟩ (.int .i64 ((m : Nat) : Int))) (((((W1.setCell ⟨q, 1, none⟩ (.int .i64 (((f + 1) % n : Nat) : Int))).setCell ⟨q, 2, none⟩ (.int .i64 ((m : Nat) : Int))).setCell ⟨w.heap.size, 0, none⟩ (.int .i64 ek)).setCell ⟨w.heap.size, 1, none⟩ (.int .i64 ea)).setCell ⟨w.heap.size, 2, none⟩ (.int .i64 eb)) :=
    Mod.setCell (S := fun j => j = w.heap.size) (p := ⟨w.heap.size, 2, none⟩) (Mod.setCell (S := fun j => j = w.heap.size) (p := ⟨w.heap.size, 1, none⟩) (Mod.setCell (S := fun j => j = w.heap.size) (p := ⟨w.heap.size, 0, none⟩) (Mod.refl _ _) (fun _ => rfl) _) (fun _ => rfl) _) (fun _ => rfl) _
  exact ⟨Q2.mod N1 hq2 hg2, Mod.setCell (S := fun j => j = q) (p := ⟨w.heap.size, 2, none⟩) (Mod.setCell (S := fun j => j = q) (p := ⟨w.heap.size, 1, none⟩) (Mod.setCell (S := fun j => j = q) (p := ⟨w.heap.size, 0, none⟩) ((below_mod B1).trans M2) (fun h => (by simp at h)) _) (fun h => (by simp at h)) _) (fun h => (by simp at h)) _⟩
set_option maxRecDepth 100000 in
set_option maxHeartbeats 1000000 in
theorem pushc_no (q g n c f m : Nat) (L : List Ev) (lv : Value) (k : Nat) (es : List Ev) (w : World) (h : QC w q g n c f m L) (hr : Rd w lv k 3 (evCells es)) (hk : n - m < k) :
    Calls Try.prog 31 #[.pointer (some ⟨q, 0, none⟩), lv] w fun e w' => e = .returned (.int .i64 190) ∧ Below w.heap.size w w' := by
  obtain ⟨la, lc, rfl, _, _⟩ := hr.shape
  have hkI : ((n - m : Nat) : Int) < (k : Int) := by omega
  have hfr := freec_any q g n c f m L w h
  have Hfr := Lib.hid hfr
  clear hfr hk
  generalize n - m = fr at hkI Hfr
  go_enter Try.func31, Try.ntmps31
  go_wp2_with fail
  refine Hfr.out.mono ?_
  rintro e w1 ⟨rfl, d, rfl⟩
  go_wp2
  go_ret
  exact ⟨rfl, Below.drewN' (Below.refl _ _) d⟩
def PushC (q g n c f m : Nat) (L es : List Ev) (w : World) (r : Ending) (w' : World) : Prop :=
  r = .returned (.int .i64 0) ∧ QC w' q g n c f (m + es.length) (L ++ es) ∧ Mod (fun j => j = q ∨ j = g) w w'
set_option maxRecDepth 100000 in
set_option maxHeartbeats 2000000 in
theorem pushc_ok (q g n c f m : Nat) (L : List Ev) (lv : Value) (k : Nat) (es : List Ev) (hl : es.length = k) (w : World) (h : QC w q g n c f m L) (hr : Rd w lv k 3 (evCells es)) (hk : k ≤ n - m) (hap : k ≠ 0 → ∀ b, lv.ownBlock = some b → b ≠ q ∧ b ≠ g) :
    Calls Try.prog 31 #[.pointer (some ⟨q, 0, none⟩), lv] w (PushC q g n c f m L es w) := by
  obtain ⟨la, lc, rfl, _, _⟩ := hr.shape
  have hkI : ¬ ((n - m : Nat) : Int) < (k : Int) := by omega
  have hfr := freec_any q g n c f m L w h
  have Hfr := Lib.hid hfr
  have hn := h.room
  have hcap := h.cap
  have hmn := h.full
  have hk2 : k ≤ 1024 := by omega
  have Hl := Lib.hid hl
  clear hfr hl
  generalize hfn : n - m = fr at hkI Hfr hk
  have Hfn := Lib.hid hfn
  have hdec : decide (fr < k) = false := by simp; omega
  clear hfn
  go_enter Try.func31, Try.ntmps31
  go_wp2_with fail
  refine Hfr.out.mono ?_
  rintro e w1 ⟨rfl, d, rfl⟩
  go_wp2
  go_loopw [6, 14] (fun _ i wr => ∃ j : Nat, j ≤ k ∧ i = .int .i64 j ∧ QC wr q g n c f (m + j) (L ++ es.take j) ∧ Mod (fun j => j = q ∨ j = g) w wr) (fun _ i _ => k - (intOf i).toNat)
  case atStart => exact ⟨0, Nat.zero_le _, rfl, by simpa using h.new (Below.drewN' (Below.refl _ _) d), below_mod (Below.drewN' (Below.refl _ _) d)⟩
  case round =>
    obtain ⟨j, hj, rfl, hQ, hM⟩ := hrel
    by_cases hlt : j < k
    · have hjI : (j : Int) < (k : Int) := by omega
      obtain ⟨e, he⟩ : ∃ e, es[j]? = some e := ⟨_, List.getElem?_eq_getElem (by rw [Hl.out]; exact hlt)⟩
      obtain ⟨ab, ao, rfl⟩ := hr.addr (by omega)
      have hr' := hr.mod hM (fun b hb hs => by
        have := hap (by omega) b hb
        rcases hs with hs | hs
        · exact this.1 hs
        · exact this.2 hs)
      obtain ⟨f0, f1, f2⟩ := hr'.ev hlt he
      have htk : es.take (j + 1) = es.take j ++ [e] := by
        obtain ⟨h1, h2⟩ := List.getElem?_eq_some_iff.1 he
        rw [List.take_succ_eq_append_getElem h1, h2]
      have hmj : m + j < n := by have := Hfn.out; omega
      obtain ⟨p, hp⟩ : ∃ p, (f + (m + j)) % n = p := ⟨_, rfl⟩
      have hpn : p < n := by rw [← hp]; exact Nat.mod_lt _ (by omega)
      have hput := fun W (hW : QC W q g n c f (m + j) (L ++ es.take j)) => qc_put (p := p) hW hmj hp e
      obtain ⟨X, E, h1, h2, h3⟩ := hQ.ring
      obtain ⟨x, hx⟩ : ∃ x, X[p]? = some x := ⟨_, List.getElem?_eq_getElem (by omega)⟩
      obtain ⟨y0, y1, y2⟩ := evx_get E hx
      have z0 := (h1.cell (p * 3)).trans y0
      have z1 := (h1.cell (p * 3 + 1)).trans y1
      have z2 := (h1.cell (p * 3 + 2)).trans y2
      have t0 := h1.frozen (p * 3)
      have t1 := h1.frozen (p * 3 + 1)
      have t2 := h1.frozen (p * 3 + 2)
      have c0 := hQ.head.cell 0
      have c2 := hQ.head.cell 2
      have k2 := hQ.head.frozen 2
      simp only [List.getElem?_cons_zero, List.getElem?_cons_succ] at c0 c2
      have hg := h1.lt
      have hq := hQ.head.lt
      have hne : ¬ q = g := hQ.ne
      have hne' : ¬ g = q := fun e => hne e.symm
      have habl : ab < wr.heap.size := hr'.block_lt (by omega)
      have hat := fun W (hW : QC W q g n c f (m + j) (L ++ es.take j)) => atc_any q g n c f (m + j) _ (m + j) (by omega) W hW
      rw [hp] at hat
      have hpI : (p : Int) < (n : Int) := by omega
      have hp0 : (0 : Int) ≤ (p : Int) := by omega
      obtain ⟨ek, ea, eb⟩ := e
      simp only at f0 f1 f2
      have Hat := Lib.hid hat
      have Hput := Lib.hid hput
      have Htk := Lib.hid htk
      obtain ⟨M, hMe⟩ : ∃ M, M = m + j := ⟨_, rfl⟩
      have HM := Lib.hid hMe
      rw [← hMe] at c2 Hat
      have hM1 : (M : Int) ≤ 1024 := by omega
      clear hp hx y0 y1 y2 h1 h2 h3 hat hput htk he hMe
      go_wp2
      obtain ⟨W1, hW1⟩ : ∃ W1, wr.alloc (.cells #[.int .i64 ek, .int .i64 ea, .int .i64 eb] 56) = W1 := ⟨_, rfl⟩
      have B1 : Below wr.heap.size wr W1 := by rw [← hW1]; exact (Below.refl _ wr).alloc (Nat.le_refl _) _
      have xb : Blk W1 wr.heap.size 56 [.int .i64 ek, .int .i64 ea, .int .i64 eb] := by rw [← hW1]; exact Blk.new wr 56 [_, _, _]
      rw [hW1]
      clear hW1
      have hng : ¬ wr.heap.size = g := by omega
      have hng' : ¬ g = wr.heap.size := by omega
      have Q1 := hQ.new B1
      have Q1M : QC W1 q g n c f M (L ++ es.take j) := by rw [HM.out]; exact Q1
      have b0 := xb.cell 0
      have b1 := xb.cell 1
      have b2 := xb.cell 2
      simp only [List.getElem?_cons_zero, List.getElem?_cons_succ] at b0 b1 b2
      have z0 := (B1.cell (p := ⟨g, p * 3, none⟩) hg).trans z0
      have z1 := (B1.cell (p := ⟨g, p * 3 + 1, none⟩) hg).trans z1
      have z2 := (B1.cell (p := ⟨g, p * 3 + 2, none⟩) hg).trans z2
      have t0 := (B1.frozen (p := ⟨g, p * 3, none⟩) hg).trans t0
      have t1 := (B1.frozen (p := ⟨g, p * 3 + 1, none⟩) hg).trans t1
      have t2 := (B1.frozen (p := ⟨g, p * 3 + 2, none⟩) hg).trans t2
      have c0 := (B1.cell (p := ⟨q, 0, none⟩) hq).trans c0
      have c2 := (B1.cell (p := ⟨q, 2, none⟩) hq).trans c2
      have k2 := (B1.frozen (p := ⟨q, 2, none⟩) hq).trans k2
      have M1 := hM.trans (below_mod B1 (S := fun j => j = q ∨ j = g))
      go_region_held3 (fun wx => wx.cell? ⟨q, 0, none⟩ = some (.slice (some ⟨g, 0, none⟩) n c) ∧ wx.cell? ⟨q, 2, none⟩ = some (.int .i64 (M : Int)) ∧ wx.cell? ⟨wr.heap.size, 0, none⟩ = some (.int .i64 ek) ∧ wx.cell? ⟨wr.heap.size, 1, none⟩ = some (.int .i64 ea) ∧ wx.cell? ⟨wr.heap.size, 2, none⟩ = some (.int .i64 eb)) (go_keep)
        ((go_at_call 66; refine (Hat.out _ (Q1M.new ?hB)).mono ?_
          case hB => exact (Below.refl _ W1).drew
          rintro r w5 ⟨rfl, d, rfl⟩))
      go_wp2
      have hfin := Hput.out (W1.drewN (1 + d)) (Q1.new (Below.drewN' (Below.refl _ _) _))
      have eM : ((m + j + 1 : Nat) : Int) = (M : Int) + 1 := by have := HM.out; omega
      unfold set3 at hfin
      rw [eM] at hfin
      obtain ⟨hQ2, hM2⟩ := hfin
      have HQ2 := Lib.hid hQ2
      have HM2 := Lib.hid hM2
      clear eM hQ2 hM2
      go_roundw
      case rel => exact ⟨j + 1, by omega, by go_num, by rw [Htk.out, ← List.append_assoc]; exact HQ2.out, (M1.trans (below_mod (Below.drewN' (Below.refl _ _) _))).trans HM2.out⟩
      case measure => simp [intOf]; omega
    · obtain rfl : j = k := by omega
      have hjI : ¬ (j : Int) < (j : Int) := by omega
      have ht : es.take j = es := by rw [List.take_of_length_le (by rw [Hl.out]; exact Nat.le_refl _)]
      rw [ht] at hQ
      have HQ := Lib.hid hQ
      clear hQ ht
      go_wp2
      go_ret
      exact ⟨rfl, by rw [Hl.out]; exact HQ.out, hM⟩
set_option maxRecDepth 100000 in
set_option maxHeartbeats 4000000 in
theorem qallc_any (q g n c f m : Nat) (L : List Ev) (w : World) (h : QC w q g n c f m L) :
    Calls Try.prog 34 #[.pointer (some ⟨q, 0, none⟩)] w (AllPost L w) := by
  obtain ⟨i0, hi, hz0, hz1, hz2⟩ := info_parts info56
  have hn := h.room
  have hcap := h.cap
  have hmn := h.full
  have hLm := h.len
  have hq0 := h.head.lt
  have hg0 := h.glt
  have c2 := h.head.cell 2
  simp only [List.getElem?_cons_zero, List.getElem?_cons_succ] at c2
  have Hlm := Lib.hid hLm
  clear hLm
  go_enter Try.func34, Try.ntmps34
  go_wp2
  go_loopw [3, 4, 9] (fun o _ i wr => ∃ (j : Nat) (ov : Value), j ≤ m ∧ i = .int .i64 j ∧ ov = o ∧ wr.ownsRow w.heap.size 56 3 ov j (evCells (L.take j)) ∧ Below w.heap.size w wr) (fun _ _ i _ => m - (intOf i).toNat)
  case atStart => exact ⟨0, _, Nat.zero_le _, rfl, rfl, World.ownsRow_nil _ _ _ _, Below.refl _ _⟩
  case round =>
    obtain ⟨j, ov, hj, rfl, rfl, ho, hB⟩ := hrel
    have hBs := hB.size
    by_cases hlt : j < m
    · have hjI : (j : Int) < (m : Int) := by omega
      obtain ⟨e, he⟩ : ∃ e, L[j]? = some e := ⟨_, List.getElem?_eq_getElem (by rw [Hlm.out]; exact hlt)⟩
      have hQ := h.new hB
      obtain ⟨X, E, h1, h2, h3⟩ := hQ.ring
      obtain ⟨p, hp⟩ : ∃ p, (f + j) % n = p := ⟨_, rfl⟩
      have hx := h3 j hlt
      rw [hp, he] at hx
      have hpn : p < n := by rw [← h2]; exact (List.getElem?_eq_some_iff.1 hx).1
      obtain ⟨y0, y1, y2⟩ := evx_get E hx
      have z0 := (h1.cell (p * 3)).trans y0
      have z1 := (h1.cell (p * 3 + 1)).trans y1
      have z2 := (h1.cell (p * 3 + 2)).trans y2
      have c0 := hQ.head.cell 0
      simp only [List.getElem?_cons_zero] at c0
      have hg := h1.lt
      have hq := hQ.head.lt
      have htk : L.take (j + 1) = L.take j ++ [e] := by
        obtain ⟨h1, h2⟩ := List.getElem?_eq_some_iff.1 he
        rw [List.take_succ_eq_append_getElem h1, h2]
      have hat := fun W (hW : QC W q g n c f m L) => atc_b q g n c f m L j p (by omega) hp W hW
      have hpI : (p : Int) < (n : Int) := by omega
      have hp0 : (0 : Int) ≤ (p : Int) := by omega
      obtain ⟨ek, ea, eb⟩ := e
      simp only at z0 z1 z2
      have Hat := Lib.hid hat
      have Htk := Lib.hid htk
      clear hp hx y0 y1 y2 h1 h2 h3 hat htk he c2
      have Qd := hQ.new ((Below.refl _ wr).drew)
      go_wp2
      go_region_held3 (fun wx => wx.cell? ⟨q, 0, none⟩ = some (.slice (some ⟨g, 0, none⟩) n c) ∧ wx.cell? ⟨g, p * 3, none⟩ = some (.int .i64 ek) ∧ wx.cell? ⟨g, p * 3 + 1, none⟩ = some (.int .i64 ea) ∧ wx.cell? ⟨g, p * 3 + 2, none⟩ = some (.int .i64 eb))
        (first
          | go_keep
          | exact ⟨k4, k5, k6, k7⟩)
        (first
          | (go_at_call 66; refine (Hat.out _ Qd).mono ?_
             rintro r w5 ⟨rfl, B5'⟩
             have B5 : Below wr.heap.size wr w5 := ((Below.refl _ wr).drew).trans (B5'.mono (by simp))
             have k0 := (B5.cell (p := ⟨q, 0, none⟩) hq).trans c0
             have k1 := (B5.cell (p := ⟨g, p * 3, none⟩) hg).trans z0
             have k2 := (B5.cell (p := ⟨g, p * 3 + 1, none⟩) hg).trans z1
             have k3 := (B5.cell (p := ⟨g, p * 3 + 2, none⟩) hg).trans z2
             have hs5 := B5.size
             have hq5 : q < w5.heap.size := by omega
             have hg5 : g < w5.heap.size := by omega
             have o5 := own_new ho B5)
          | (refine step_append_lies _ (by rfl) _ _ _ (by rfl) w.heap.size 56 i0 _ 3 24 Try.underlying53 hi hz0 hz1 hz2 rfl (by omega) _ j (evCells (L.take j)) (by rfl) (o5.alloc _) ⟨w5.heap.size, 0, none⟩ 1 1 [.int .i64 ek, .int .i64 ea, .int .i64 eb] (by rfl) (by rfl) (World.news_of_block (cs := #[.int .i64 ek, .int .i64 ea, .int .i64 eb]) (t := 56) (fr := (0, 0)) (heap_alloc_new w5 _)) (by simp [Value.oneCell']) (by omega) (by unfold maxLen; omega) (by omega) (by simp; omega) (w5.heap.size + 1) (by simp) ?_
             intro gg cap w6 o6 g6 hat6 hlt6
             have B6 : Below w.heap.size w w6 := ((hB.trans (B5.mono hBs)).alloc (by omega) (.cells #[.int .i64 ek, .int .i64 ea, .int .i64 eb] 56)).grown g6 (by simp; omega) (fun r hr => ownBlock_ge o5 hr)
             have k4 := (B6.cell (p := ⟨q, 0, none⟩) hq0).trans ((hB.cell (p := ⟨q, 0, none⟩) hq0).symm.trans c0)
             have k5 := (B6.cell (p := ⟨g, p * 3, none⟩) hg0).trans ((hB.cell (p := ⟨g, p * 3, none⟩) hg0).symm.trans z0)
             have k6 := (B6.cell (p := ⟨g, p * 3 + 1, none⟩) hg0).trans ((hB.cell (p := ⟨g, p * 3 + 1, none⟩) hg0).symm.trans z1)
             have k7 := (B6.cell (p := ⟨g, p * 3 + 2, none⟩) hg0).trans ((hB.cell (p := ⟨g, p * 3 + 2, none⟩) hg0).symm.trans z2)))
      go_wp2
      go_roundw
      case rel => exact ⟨j + 1, _, by omega, by go_num, rfl, by rw [Htk.out, ev_append]; exact o6, B6⟩
      case measure => simp [intOf]; omega
    · obtain rfl : j = m := by omega
      have hjI : ¬ (j : Int) < (j : Int) := by omega
      have ht : L.take j = L := by rw [List.take_of_length_le (by rw [Hlm.out]; exact Nat.le_refl _)]
      rw [ht] at ho
      obtain ⟨oa, oc, rfl, o1, o2⟩ := (Rd.of_own ho).shape
      have Ho := Lib.hid ho
      clear ho ht
      go_wp2_with fail
      refine (clip67_any _ _ _ _ o1 o2).mono ?_
      rintro e w2 ⟨rfl, rfl⟩
      go_wp2
      go_ret
      exact ⟨oa, oc, by rw [Hlm.out]; rfl, by rw [Hlm.out]; exact Ho.out, hB⟩
end Go.Proofs.Ytlcmjpligaiadaa
