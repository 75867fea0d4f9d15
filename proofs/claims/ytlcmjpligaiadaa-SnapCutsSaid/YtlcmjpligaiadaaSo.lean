/- Snap: an empty world's numbers. -/
import Derived.Test.YtlcmjpligaiadaaSn
import Derived.Test.YtlcmjpligaiadaaSh
namespace Go.Proofs.Ytlcmjpligaiadaa
open Go.RowKit Go.Shelf
set_option maxRecDepth 100000 in
theorem all84_any (p : Nat) (w : World) : Calls Try.prog 84 #[.pointer (some ⟨p, 0, none⟩)] w fun e w' => e = .returned (.func (.func 90) #[] #[.pointer (some ⟨w.heap.size, 0, none⟩)]) ∧ w' = w.alloc (.cells #[.pointer (some ⟨p, 0, none⟩)] 116) := by
  go_enter Try.func84, Try.ntmps84
  go_wp2
  go_ret
  exact ⟨rfl, rfl⟩
set_option maxRecDepth 100000 in
theorem all85_any (p : Nat) (w : World) : Calls Try.prog 85 #[.pointer (some ⟨p, 0, none⟩)] w fun e w' => e = .returned (.func (.func 92) #[] #[.pointer (some ⟨w.heap.size, 0, none⟩)]) ∧ w' = w.alloc (.cells #[.pointer (some ⟨p, 0, none⟩)] 117) := by
  go_enter Try.func85, Try.ntmps85
  go_wp2
  go_ret
  exact ⟨rfl, rfl⟩
set_option maxRecDepth 100000 in
set_option maxHeartbeats 4000000 in
theorem ints_any (o : Nat) (w : World) (h : WorldZ w o) :
    Calls Try.prog 75 #[.pointer (some ⟨o, 0, none⟩)] w fun e w' => ∃ v, e = .returned v ∧ Rd w' v 12 1 (ints (List.replicate 12 0)) ∧ Below w.heap.size w w' := by
  obtain ⟨pb, sb, pj, sj, q, hw, hpb, hpj⟩ := h
  have c0 := hw.cell 0
  have c1 := hw.cell 1
  have c2 := hw.cell 2
  have c3 := hw.cell 3
  have c4 := hw.cell 4
  have c5 := hw.cell 5
  have c6 := hw.cell 6
  have c8 := hw.cell 8
  have c9 := hw.cell 9
  have c10 := hw.cell 10
  have c11 := hw.cell 11
  simp only [wcells, List.getElem?_cons_zero, List.getElem?_cons_succ] at c0 c1 c2 c3 c4 c5 c6 c8 c9 c10 c11
  have hol := hw.lt
  refine (callsIn_wide (n := 4)).1 ?_
  refine callsIn_of_wp_marks Try.func75 rfl trivial ?_ rfl
  simp only [Try.ntmps75, List.size_toArray, List.length_cons, List.length_nil, Nat.reduceAdd, Nat.reduceSub, Array.replicate_succ, Array.replicate_zero, List.push_toArray, List.append_toArray, List.nil_append, List.cons_append]
  refine wpIn_wide.2 ?_
  go_wp2
  go_region_held3 (fun wx => wx.cell? ⟨o, 0, none⟩ = some (.int .i64 0) ∧ wx.cell? ⟨o, 1, none⟩ = some (.int .i64 0) ∧ wx.cell? ⟨o, 2, none⟩ = some (.int .i64 0) ∧ wx.cell? ⟨o, 6, none⟩ = some (.slice none 0 0) ∧ wx.cell? ⟨o, 8, none⟩ = some (.int .i64 0) ∧ wx.cell? ⟨o, 9, none⟩ = some (.int .i64 0) ∧ wx.cell? ⟨o, 10, none⟩ = some (.int .i64 0) ∧ wx.cell? ⟨o, 11, none⟩ = some (.int .i64 0)) (go_keep) (fail)
  have ha := (Blk.newAt (w := w) (b := w.heap.size) rfl 157 emptyAll).drew
  have hB : Below w.heap.size w (w.alloc (.cells emptyAll.toArray 157)).drew := ((Below.refl _ w).alloc (Nat.le_refl _) _).drew
  have hae : emptyAll.toArray = #[.int .i64 0, .int .i64 0, .int .i64 0, .int .i64 0, .int .i64 0, .int .i64 0, .int .i64 0, .slice none 0 0, .slice none 0 0, .slice none 0 0, .slice none 0 0, .slice none 0 0] := rfl
  rw [hae] at ha hB
  clear hae
  clear c0 c1 c2 c3 c4 c5 c6 c8 c9 c10 c11
  generalize (w.alloc _).drew = w1 at *
  have hw1 := hw.below hB hol
  have hpb1 := hpb.new hB
  have hpj1 := hpj.new hB
  have c3 := hw1.cell 3
  have c4 := hw1.cell 4
  simp only [wcells, List.getElem?_cons_zero, List.getElem?_cons_succ] at c3 c4
  go_wp2_with fail
  refine (all84_any pb w1).mono ?_
  rintro e w2 ⟨rfl, hw2e⟩
  have hbb := Blk.newAt (w := w1) (b := w1.heap.size) rfl 116 [.pointer (some ⟨pb, 0, none⟩)]
  have B12 : Below w1.heap.size w1 w2 := by rw [hw2e]; exact (Below.refl _ w1).alloc (Nat.le_refl _) _
  rw [← hw2e] at hbb
  clear hw2e
  go_wp2_with fail
  have hpb2 := hpb1.new B12
  have hpj2 := hpj1.new B12
  have hbs2 : ∀ b ∈ [pb, sb, w1.heap.size], b < w2.heap.size := by
    intro b hb
    simp only [List.mem_cons, List.not_mem_nil, or_false] at hb
    rcases hb with rfl | rfl | rfl
    · exact hpb2.lt.1
    · exact hpb2.lt.2
    · exact hbb.lt
  refine wpIn_wide.1 (range_list (α := Empty) (F := Fence.wide) (n := 3) rfl (by decide) (gf := 90) (lb := #[.pointer (some ⟨w1.heap.size, 0, none⟩)]) rfl trivial (enters_of Try.func90 (by kernel_rfl) rfl)
    (seq90_none (fun x => x.elim) 2 w1.heap.size pb sb w2 hpb2 hbb) hbs2 (Below.refl _ _) (fun x => x.elim) (fun _ W => Below w2.heap.size w2 W) (fun _ _ _ => False) ?own ?ownx (Below.refl _ _) (fun x => x.elim) ?assign ?body ?done ?stop)
  case own => exact fun pre A B row h hg hr => h.grown hg h.size (fun r e => (hr r e).1)
  case ownx => exact fun c pre A B row h hg hr => h
  case assign => exact fun l x => x.elim
  case body => exact fun l pre x => x.elim
  case stop => exact fun D c pre W _ _ h => h.elim
  case done =>
    intro D W hD hW hh
    have BW : Below w.heap.size w W := hB.trans ((B12.mono hB.size).trans (hW.mono (by have := B12.size; have := hB.size; omega)))
    have hpjW := (hpj2.new hW)
    have hwW := (hw1.below B12 hw1.lt).below hW (by have := hw1.lt; have := B12.size; omega)
    have haW := (ha.below B12 ha.lt).below hW (by have := ha.lt; have := B12.size; omega)
    have c5 := hwW.cell 5
    simp only [wcells, List.getElem?_cons_zero, List.getElem?_cons_succ] at c5
    clear hpj2 hpj1 hpb2 hpb1 hw1 ha c3 c4 hpb hpj hw
    gi_wp2
    go_wp2_with fail
    refine (all85_any pj W).mono ?_
    rintro e w3 ⟨rfl, hw3e⟩
    have hbb3 := Blk.newAt (w := W) (b := W.heap.size) rfl 117 [.pointer (some ⟨pj, 0, none⟩)]
    have B13 : Below W.heap.size W w3 := by rw [hw3e]; exact (Below.refl _ W).alloc (Nat.le_refl _) _
    rw [← hw3e] at hbb3
    clear hw3e
    go_wp2_with fail
    have BW3 : Below w.heap.size w w3 := BW.trans (B13.mono BW.size)
    have hpjW3 := hpjW.new B13
    have hwW3 := hwW.below B13 hwW.lt
    have haW3 := haW.below B13 haW.lt
    have hDl : D < W.heap.size := (Array.getElem?_eq_some_iff.1 hh).1
    have hh3 : w3.heap[D]? = some (Obj.deferred (some [])) := by rw [B13.block D hDl]; exact hh
    have hbs3 : ∀ b ∈ [pj, sj, W.heap.size], b < w3.heap.size := by
      intro b hb
      simp only [List.mem_cons, List.not_mem_nil, or_false] at hb
      rcases hb with rfl | rfl | rfl
      · exact hpjW3.lt.1
      · exact hpjW3.lt.2
      · exact hbb3.lt
    refine wpIn_wide.1 (range_list (α := Empty) (F := Fence.wide) (n := 3) rfl (by decide) (gf := 92) (lb := #[.pointer (some ⟨W.heap.size, 0, none⟩)]) rfl trivial (enters_of Try.func92 (by kernel_rfl) rfl)
      (seq92_none (fun x => x.elim) 2 W.heap.size pj sj w3 hpjW3 hbb3) hbs3 (Below.refl _ _) (fun x => x.elim) (fun _ V => Below w3.heap.size w3 V) (fun _ _ _ => False) ?own ?ownx (Below.refl _ _) (fun x => x.elim) ?assign ?body ?done ?stop)
    case own => exact fun pre A B row h hg hr => h.grown hg h.size (fun r e => (hr r e).1)
    case ownx => exact fun c pre A B row h hg hr => h
    case assign => exact fun l x => x.elim
    case body => exact fun l pre x => x.elim
    case stop => exact fun D c pre W _ _ h => h.elim
    case done =>
      intro D2 V hD2 hV hh2
      have BV : Below w.heap.size w V := BW3.trans (hV.mono BW3.size)
      have hhV : V.heap[D]? = some (Obj.deferred (some [])) := by rw [hV.block D (Array.getElem?_eq_some_iff.1 hh3).1]; exact hh3
      have haV := haW3.below hV haW3.lt
      have hne : D ≠ D2 := by have := (Array.getElem?_eq_some_iff.1 hh3).1; omega
      have hal := haV.lt
      have hTp := (show Tape (V.alloc (.cells #[.slice none 0 0, .bool false, .bool false] 172)) V.heap.size (.slice none 0 0) 0 [] from ⟨Blk.newAt rfl 172 _, World.ownsRow_nil _ _ _ _⟩)
      have haA := haV.alloc (.cells #[.slice none 0 0, .bool false, .bool false] 172)
      gi_wp2
      go_wp2_with fail
      refine (tall_any V.heap.size (.slice none 0 0) w.heap.size hal _ hTp haA).mono ?_
      rintro e V1 ⟨rfl, tv, hT1, hB1, hK1⟩
      obtain ⟨ta, tc, rfl, htn, htc⟩ := (Rd.of_own hT1.2).shape
      have hB2 : Below V.heap.size V V1 := ((Below.refl _ V).alloc (Nat.le_refl _) _).trans hB1
      have hD2l : D2 < V.heap.size := (Array.getElem?_eq_some_iff.1 hh2).1
      have hDV1 : V1.heap[D]? = some (Obj.deferred (some [])) := by rw [hB2.block D (Array.getElem?_eq_some_iff.1 hhV).1]; exact hhV
      have hD2V1 : V1.heap[D2]? = some (Obj.deferred (some [])) := by rw [hB2.block D2 hD2l]; exact hh2
      have qt : _ = some (Value.slice ta 12 tc) := hT1.1.cell 0
      go_wp2_with fail
      refine (clip59_any ta 12 tc V1 htn htc).mono ?_
      rintro e V2 ⟨rfl, rfl⟩
      go_wp2
      have mD2 : Mod (fun j => w.heap.size ≤ j) V1 (V1.putObj D2 (.deferred none)) := (Mod.refl _ _).putObj D2 _ (fun _ => by have := BW3.size; omega)
      have hDX : (V1.putObj D2 (.deferred none)).heap[D]? = some (Obj.deferred (some [])) := by
        simp only [World.putObj, Array.getElem?_setIfInBounds]
        rw [if_neg (by omega)]
        exact hDV1
      refine ⟨by simp, .inl ⟨_, _, rfl, run_takeDeferred hD2V1, ?_⟩⟩
      refine ⟨by simp, .inl ⟨_, _, rfl, run_takeDeferred hDX, ?_⟩⟩
      have mD : Mod (fun j => w.heap.size ≤ j) V1 ((V1.putObj D2 (.deferred none)).putObj D (.deferred none)) := mD2.putObj D _ (fun _ => by have := hB.size; have := B12.size; omega)
      refine ⟨.slice ta 12 12, ?_, .slice ta 12 12, rfl, ?_, ?_⟩
      · simp [results, Try.f75, go_sem]
      · have o3 := own_keep hT1.2 (fun g cur e hc => (((Mod.refl (fun j => j = D ∨ j = D2) V1).putObj D2 (.deferred none) (fun _ => .inr rfl)).putObj D (.deferred none) (fun _ => .inl rfl)).block g (Array.getElem?_eq_some_iff.1 hc).1 (fun h => by
          rcases h with rfl | rfl
          · rw [hDV1] at hc; cases hc
          · rw [hD2V1] at hc; cases hc))
        exact (Rd.of_own o3).clipped
      · exact (BV.trans (hB2.mono BV.size)).trans (mD.below (B := w.heap.size) (by have := BV.size; have := hB2.size; omega) (fun j h1 h2 => by omega))
end Go.Proofs.Ytlcmjpligaiadaa
