/- Event queues: Take, Push. -/
import Derived.Test.YtlcmjpligaiadaaE1
import Derived.Deep.RegionHeld3
namespace Go.Proofs.Ytlcmjpligaiadaa
open Go.RowKit
theorem wrapN {f i n : Nat} (hf : f < n) (hi : i ≤ n) : (f + i) % n = if f + i < n then f + i else f + i - n := by
  split
  · exact Nat.mod_eq_of_lt (by assumption)
  · rw [Nat.mod_eq_sub_mod (by omega), Nat.mod_eq_of_lt (by omega)]
theorem at_b (q g n f m : Nat) (L : List Ev) (k p : Nat) (hk : k ≤ 1024) (hp : (f + k) % n = p) (w : World) (h : QAt w q g n f m L) :
    Calls Try.prog 66 #[.pointer (some ⟨q, 0, none⟩), .int .i64 (k : Int)] w fun e w' => e = .returned (.int .i64 (p : Int)) ∧ Below w.heap.size w w' :=
  (at_any q g n f m L k hk w h).mono fun e w' ⟨he, d, hw⟩ => by
    subst hw; subst hp
    exact ⟨he, Below.drewN' (Below.refl _ _) d⟩
/-- What stands where a new event is laid. -/
def set3 (w : World) (g p : Nat) (e : Ev) : World := ((w.setCell ⟨g, p * 3, none⟩ (.int .i64 e.kind)).setCell ⟨g, p * 3 + 1, none⟩ (.int .i64 e.a)).setCell ⟨g, p * 3 + 2, none⟩ (.int .i64 e.b)
theorem qat_put {w : World} {q g n f m p : Nat} {L : List Ev} (h : QAt w q g n f m L) (hm : m < n) (hp : (f + m) % n = p) (e : Ev) :
    QAt ((set3 w g p e).setCell ⟨q, 2, none⟩ (.int .i64 ((m + 1 : Nat) : Int))) q g n f (m + 1) (L ++ [e]) ∧ Mod (fun j => j = q ∨ j = g) w ((set3 w g p e).setCell ⟨q, 2, none⟩ (.int .i64 ((m + 1 : Nat) : Int))) := by
  have hne := h.ne
  obtain ⟨X, h1, h2, h3⟩ := h.ring
  have hfn := h.at'
  have hpn : p < n := by rw [← hp]; exact Nat.mod_lt _ (by omega)
  have hLm := h.len
  refine ⟨⟨?_, ⟨X.set p e, ?_, by simpa using h2, fun i hi => ?_⟩, by simp [h.len], by omega, h.at', h.room⟩, ?_⟩
  · exact ((((h.head.setCell_ne (p := ⟨g, p * 3, none⟩) hne _).setCell_ne (p := ⟨g, p * 3 + 1, none⟩) hne _).setCell_ne (p := ⟨g, p * 3 + 2, none⟩) hne _).set 2 _)
  · have := (((h1.set (p * 3) (.int .i64 e.kind)).set (p * 3 + 1) (.int .i64 e.a)).set (p * 3 + 2) (.int .i64 e.b)).setCell_ne (p := ⟨q, 2, none⟩) (Ne.symm hne) (.int .i64 ((m + 1 : Nat) : Int))
    rw [ev_set X p e (by omega)] at this
    exact this
  · rw [wrapN hfn (by omega)]
    rw [wrapN hfn (by omega)] at hp
    rcases Nat.lt_or_ge i m with hi2 | hi2
    · have := h3 i hi2
      rw [wrapN hfn (by omega)] at this
      rw [List.getElem?_set_ne (by split at hp <;> split <;> omega), this, List.getElem?_append_left (by omega)]
    · obtain rfl : i = m := by omega
      rw [hp, List.getElem?_set_self (by omega), List.getElem?_append_right (by omega)]
      simp [hLm]
  · exact Mod.setCell (S := fun j => j = q ∨ j = g) (p := ⟨q, 2, none⟩) (Mod.setCell (p := ⟨g, p * 3 + 2, none⟩) (Mod.setCell (p := ⟨g, p * 3 + 1, none⟩) (Mod.setCell (p := ⟨g, p * 3, none⟩) (Mod.refl _ w) (fun _ => .inr rfl) _) (fun _ => .inr rfl) _) (fun _ => .inr rfl) _) (fun _ => .inl rfl) _
theorem qat_take {w : World} {q g n f m : Nat} {e : Ev} {L : List Ev} (h : QAt w q g n f (m + 1) (e :: L)) :
    QAt ((w.setCell ⟨q, 1, none⟩ (.int .i64 (((f + 1) % n : Nat) : Int))).setCell ⟨q, 2, none⟩ (.int .i64 ((m : Nat) : Int))) q g n ((f + 1) % n) m L ∧ Mod (fun j => j = q) w ((w.setCell ⟨q, 1, none⟩ (.int .i64 (((f + 1) % n : Nat) : Int))).setCell ⟨q, 2, none⟩ (.int .i64 ((m : Nat) : Int))) := by
  have hne := h.ne
  obtain ⟨X, h1, h2, h3⟩ := h.ring
  have hfn := h.at'
  have hmn := h.full
  refine ⟨⟨?_, ⟨X, ?_, h2, fun i hi => ?_⟩, by have := h.len; simpa using this, by omega, Nat.mod_lt _ (by omega), h.room⟩, ?_⟩
  · exact (h.head.set 1 _).set 2 _
  · exact (h1.setCell_ne (p := ⟨q, 1, none⟩) (Ne.symm hne) _).setCell_ne (p := ⟨q, 2, none⟩) (Ne.symm hne) _
  · have := h3 (i + 1) (by omega)
    rw [List.getElem?_cons_succ] at this
    rw [← this]
    congr 1
    rw [Nat.add_mod, Nat.mod_mod, ← Nat.add_mod]
    congr 1
    omega
  · exact Mod.setCell (S := fun j => j = q) (p := ⟨q, 2, none⟩) (Mod.setCell (S := fun j => j = q) (p := ⟨q, 1, none⟩) (Mod.refl _ w) (fun _ => rfl) _) (fun _ => rfl) _
def encVal (e : Ev) : Value := .agg #[.int .i64 e.kind, .int .i64 e.a, .int .i64 e.b]
set_option maxRecDepth 100000 in
set_option maxHeartbeats 1000000 in
theorem take_none (q g n f : Nat) (w : World) (h : QAt w q g n f 0 []) :
    Calls Try.prog 32 #[.pointer (some ⟨q, 0, none⟩)] w fun e w' => e = .returned (.tuple #[encVal ⟨0, 0, 0⟩, .bool false]) ∧ Below w.heap.size w w' := by
  have c2 : w.cell? ⟨q, 2, none⟩ = some (.int .i64 0) := h.head.cell 2
  have hq := h.head.lt
  go_enter Try.func32, Try.ntmps32
  go_wp2
  refine bodyPost_ret (v := .tuple #[encVal ⟨0, 0, 0⟩, .bool false]) (by simp [results, Try.f32, go_sem, encVal]) rfl ⟨rfl, ?_⟩
  repeat' (first | exact Below.refl _ _ | refine Below.drew ?_ | refine Below.alloc ?_ (by simp) _)
def TakePost (q g n f m : Nat) (e : Ev) (L : List Ev) (w : World) (r : Ending) (w' : World) : Prop :=
  r = .returned (.tuple #[encVal e, .bool true]) ∧ QAt w' q g n ((f + 1) % n) m L ∧ Mod (fun j => j = q) w w'
set_option maxRecDepth 100000 in
set_option maxHeartbeats 2000000 in
theorem take_some (q g n f m : Nat) (e : Ev) (L : List Ev) (w : World) (h : QAt w q g n f (m + 1) (e :: L)) :
    Calls Try.prog 32 #[.pointer (some ⟨q, 0, none⟩)] w (TakePost q g n f m e L w) := by
  obtain ⟨X, h1, h2, h3⟩ := h.ring
  have hf := h.at'
  have hr := h.room
  have hmn := h.full
  have x0 := h3 0 (by omega)
  rw [Nat.add_zero, Nat.mod_eq_of_lt hf, List.getElem?_cons_zero] at x0
  obtain ⟨y0, y1, y2⟩ := ev_get x0
  have z0 := (h1.cell (f * 3)).trans y0
  have z1 := (h1.cell (f * 3 + 1)).trans y1
  have z2 := (h1.cell (f * 3 + 2)).trans y2
  have c0 := h.head.cell 0
  have c1 := h.head.cell 1
  have c2 := h.head.cell 2
  have k1 := h.head.frozen 1
  have k2 := h.head.frozen 2
  simp only [List.getElem?_cons_zero, List.getElem?_cons_succ] at c0 c1 c2
  obtain ⟨ek, ea, eb⟩ := e
  simp only at z0 z1 z2
  have hq := h.head.lt
  have hg := h1.lt
  have hfI : (f : Int) < (n : Int) := by omega
  have hf0 : (0 : Int) ≤ (f : Int) := by omega
  have hm0 : (((m + 1 : Nat) : Int) == 0) = false := by simp; omega
  have hat : ∀ W, QAt W q g n f (m + 1) (⟨ek, ea, eb⟩ :: L) → Calls Try.prog 66 #[.pointer (some ⟨q, 0, none⟩), .int .i64 1] W fun e w' => e = .returned (.int .i64 (((f + 1) % n : Nat) : Int)) ∧ ∃ d, w' = W.drewN d := fun W hW => at_any q g n f (m + 1) _ 1 (by omega) W hW
  obtain ⟨f', hf'⟩ : ∃ f', f' = (f + 1) % n := ⟨_, rfl⟩
  rw [← hf'] at hat
  have Hat := Lib.hid hat
  have hmI : ((m + 1 : Nat) : Int) ≤ 1024 := by omega
  clear h1 h2 h3 x0 y0 y1 y2 hat
  obtain ⟨M, hM⟩ : ∃ M, M = m + 1 := ⟨_, rfl⟩
  have HM := Lib.hid hM
  rw [← hM] at c2 hm0 hmI
  clear hM
  go_enter Try.func32, Try.ntmps32
  go_wp2
  have Hf' := Lib.hid hf'
  clear hf'
  go_region_held3 (fun wx => wx.cell? ⟨q, 0, none⟩ = some (.slice (some ⟨g, 0, none⟩) n n) ∧ wx.cell? ⟨q, 1, none⟩ = some (.int .i64 (f : Int)) ∧ wx.cell? ⟨g, f * 3, none⟩ = some (.int .i64 ek) ∧ wx.cell? ⟨g, f * 3 + 1, none⟩ = some (.int .i64 ea) ∧ wx.cell? ⟨g, f * 3 + 2, none⟩ = some (.int .i64 eb)) (go_keep) (fail)
  go_wp2_with fail
  refine (Hat.out _ (h.new ?hB)).mono ?_
  case hB => repeat' (first | exact Below.refl _ _ | refine Below.drew ?_ | refine Below.alloc ?_ (by simp) _)
  rintro r w5 ⟨rfl, d, rfl⟩
  go_wp2
  refine bodyPost_ret (v := .tuple #[encVal ⟨ek, ea, eb⟩, .bool true]) (by simp [results, Try.f32, go_sem, encVal]) rfl ⟨rfl, ?_⟩
  have hMm : ((M : Int) - 1) = (m : Int) := by rw [HM.out]; omega
  rw [hMm, Hf'.out]
  generalize hW1 : World.drewN _ _ = W1
  have B1 : Below w.heap.size w W1 := by
    rw [← hW1]
    exact Below.drewN' (((Below.refl _ w).alloc (Nat.le_refl _) _).alloc (by simp) _) _
  have Q1 := h.new B1
  obtain ⟨Q2, M2⟩ := qat_take Q1
  have hg2 : ¬ g = w.heap.size := by omega
  have hq2 : ¬ q = w.heap.size := by omega
  have N1 : Mod (fun j => j = w.heap.size) ((W1.setCell ⟨q, 1, none⟩ (.int .i64 (((f + 1) % n : Nat) : Int))).setCell ⟨q, 2, none⟩ (.int .i64 ((m : Nat) : Int))) (((((W1.setCell ⟨q, 1, none⟩ (.int .i64 (((f + 1) % n : Nat) : Int))).setCell ⟨q, 2, none⟩ (.int .i64 ((m : Nat) : Int))).setCell ⟨w.heap.size, 0, none⟩ (.int .i64 ek)).setCell ⟨w.heap.size, 1, none⟩ (.int .i64 ea)).setCell ⟨w.heap.size, 2, none⟩ (.int .i64 eb)) :=
    Mod.setCell (S := fun j => j = w.heap.size) (p := ⟨w.heap.size, 2, none⟩) (Mod.setCell (S := fun j => j = w.heap.size) (p := ⟨w.heap.size, 1, none⟩) (Mod.setCell (S := fun j => j = w.heap.size) (p := ⟨w.heap.size, 0, none⟩) (Mod.refl _ _) (fun _ => rfl) _) (fun _ => rfl) _) (fun _ => rfl) _
  exact ⟨Q2.mod N1 hq2 hg2, Mod.setCell (S := fun j => j = q) (p := ⟨w.heap.size, 2, none⟩) (Mod.setCell (S := fun j => j = q) (p := ⟨w.heap.size, 1, none⟩) (Mod.setCell (S := fun j => j = q) (p := ⟨w.heap.size, 0, none⟩) ((below_mod B1).trans M2) (fun h => (by simp at h)) _) (fun h => (by simp at h)) _) (fun h => (by simp at h)) _⟩
end Go.Proofs.Ytlcmjpligaiadaa
