/- PoolGoes, walked. -/
import Derived.Test.YtafljpfephomoaaP7
import Derived.Test.YtafljpfephomoaaR
namespace Go.Proofs.Ytafljpfephomoaa
open Go.RowKit Go.Shelf
attribute [local go_sem] Oper.semAt_some
set_option maxRecDepth 100000 in
set_option maxHeartbeats 4000000 in
theorem goes_any (lv : Value) (n0 : Nat) (ls0 : List Int) (hn0 : ls0.length = n0) (stop : Int) (w : World) (hst : In64 stop) (hr0 : Rd w lv n0 1 (ints ls0)) :
    Calls Try.prog 8 #[lv, .int .i64 stop] w fun e w' => e = .returned (.bool true) ∧ Below w.heap.size w w' := by
  obtain ⟨la, lc, rfl⟩ : ∃ a c, lv = .slice a n0 c := by obtain ⟨a, c, h, _⟩ := hr0; exact ⟨a, c, h⟩
  have Hn0 := Lib.hid hn0; clear hn0
  obtain ⟨n, hn⟩ : ∃ n, n = min n0 64 := ⟨_, rfl⟩
  have hr := hr0.take (k := n) (by omega)
  rw [Nat.mul_one, show (ints ls0).take n = ints (ls0.take n) by simp [ints]] at hr
  have hgl : (ls0.take n).length = n := by rw [List.length_take]; have := Hn0.out; omega
  generalize ls0.take n = ls at hr hgl
  have hcap : n0 ≤ lc ∧ lc ≤ maxLen := by obtain ⟨a, c, e, h1, h2, h3, _⟩ := hr0; simp at e; obtain ⟨_, rfl⟩ := e; exact ⟨h2, h3⟩
  obtain ⟨hcap, hcm⟩ := hcap
  unfold maxLen at hcm
  have Hgl := Lib.hid hgl
  have Hn := Lib.hid hn
  have hn64 : n ≤ 64 := by omega
  clear hr0 hgl hn Hn0
  refine (callsIn_wide (n := 4)).1 ?_
  refine callsIn_of_wp_marks Try.func8 rfl trivial ?_ rfl
  simp only [Try.ntmps8, List.size_toArray, List.length_cons, List.length_nil, Nat.reduceAdd, Nat.reduceSub, Array.replicate_succ, Array.replicate_zero, List.push_toArray, List.append_toArray, List.nil_append, List.cons_append]
  refine wpIn_wide.2 ?_
  go_wp2_with fail
  refine (awake3_any _).mono ?_
  rintro e w1 ⟨rfl, B1⟩
  go_wp2_with fail
  refine (new_ok 64 64 rfl w1 (by decide) (by decide)).mono ?_
  rintro e w2 ⟨p, sb, rfl, hp2, B2, hl1, hl2⟩
  obtain ⟨W0, hW0⟩ : ∃ W0, ((w.alloc (.cells #[.slice la n0 lc] 26)).alloc (.cells #[.int .i64 stop] 3)).alloc (.cells #[.bool false] 4) = W0 := ⟨_, rfl⟩
  have x0 : Blk W0 w.heap.size 26 [.slice la n0 lc] := by rw [← hW0]; exact ((Blk.new w 26 [_]).alloc _).alloc _
  have x1 : Blk W0 (w.heap.size + 1) 3 [.int .i64 stop] := by rw [← hW0]; exact (Blk.newAt (by simp) 3 [_]).alloc _
  have x2 : Blk W0 (w.heap.size + 1 + 1) 4 [.bool false] := by rw [← hW0]; exact Blk.newAt (by simp) 4 [_]
  have hz : W0.heap.size = w.heap.size + 3 := by rw [← hW0]; simp
  have B0 : Below w.heap.size w W0 := by
    rw [← hW0]
    exact (((Below.refl _ w).alloc (Nat.le_refl _) _).alloc (by simp) _).alloc (by simp; omega) _
  rw [hW0] at B1
  clear hW0
  have B12 := B1.trans (B2.mono B1.size)
  have y0 := x0.below B12 x0.lt
  have y1 := x1.below B12 x1.lt
  have y2 := x2.below B12 x2.lt
  have c0 := y0.cell 0
  have f0 := y0.frozen 0
  have f2 := y2.frozen 0
  have c2 := y2.cell 0
  simp only [List.getElem?_cons_zero] at c0 c2
  go_upto_region 5 with (fail)
  go_cut [] from 27 to 31 (fun wx => wx = w2.setCell ⟨w.heap.size, 0, none⟩ (.slice la n lc))
  case first =>
    go_wp2
    all_goals (go_meet; (congr 2; have := Hn.out; omega))
  case rest =>
    obtain rfl := hcut
    obtain ⟨w3, hw3⟩ : ∃ w3, w2.setCell ⟨w.heap.size, 0, none⟩ (.slice la n lc) = w3 := ⟨_, rfl⟩
    have z0 : Blk w3 w.heap.size 26 [.slice la n lc] := by rw [← hw3]; exact y0.set 0 _
    have z1 : Blk w3 (w.heap.size + 1) 3 [.int .i64 stop] := by rw [← hw3]; exact y1.setCell_ne (by simp only; omega) _
    have z2 : Blk w3 (w.heap.size + 1 + 1) 4 [.bool false] := by rw [← hw3]; exact y2.setCell_ne (by simp only; omega) _
    have m3 : Mod (fun j => w.heap.size ≤ j) w w3 := by
      rw [← hw3]
      exact (Mod.of_below (B0.trans (B12.mono (by omega))) (fun j h _ => h)).setCell (fun _ => Nat.le_refl _) _
    have hp3 : PoolAt w3 p sb 64 (filled ls 0 64) 0 := by
      rw [← hw3, filled_zero]
      have hB1 := B1.size
      exact hp2.mod ((Mod.refl (fun j => j = w.heap.size) _).setCell (fun _ => rfl) _) (by omega) (by omega)
    have hr3 : Rd w3 (.slice la n lc) n 1 (ints ls) := by
      exact hr.same m3.size (fun b _ hlt => m3.block b hlt (by omega))
    rw [hw3]
    go_wp2_with fail
    go_loopw [8] (fun i wr => ∃ k : Nat, k ≤ n ∧ i = .int .i64 k ∧ PoolAt wr p sb 64 (filled ls k 64) k ∧ Mod (Pl p sb) w3 wr) (fun i _ => n - (intOf i).toNat)
    case atStart => exact ⟨0, Nat.zero_le _, rfl, hp3, Mod.refl _ _⟩
    case round =>
      obtain ⟨k, hk, rfl, hP, hM⟩ := hrel
      have hsz3 : w.heap.size + 3 ≤ w3.heap.size := by have := z2.lt; omega
      have hpz : w.heap.size + 3 ≤ p ∧ w.heap.size + 3 ≤ sb := by have := B1.size; omega
      have v0 := z0.mod hM (by unfold Pl; omega)
      have v1 := z1.mod hM (by unfold Pl; omega)
      have v2 := z2.mod hM (by unfold Pl; omega)
      have cv0 := v0.cell 0
      have cv1 := v1.cell 0
      have fv1 := v1.frozen 0
      have cv2 := v2.cell 0
      simp only [List.getElem?_cons_zero] at cv0 cv1 cv2
      have mW : Mod (fun j => w.heap.size ≤ j) w wr := m3.trans (hM.mono (fun j _ h => by rcases h with rfl | rfl <;> omega))
      have hrR := hr.same mW.size (fun b _ hlt => mW.block b hlt (by omega))
      by_cases hlt : k < n
      · obtain ⟨lb, lo, rfl⟩ := hrR.addr (by omega)
        have cl := hrR.int Hgl.out hlt
        go_wp2_with fail
        refine (put_yes _ p sb 64 k _ _ _ hP noSlot (filled_ge ls k 64 k (by rw [Hgl.out]; omega) (Nat.le_refl _) (by omega)) (filled_put ls k 64 (by rw [Hgl.out]; omega) (by omega)) ((k : Int) + 1) (by simp [noSlot])).mono ?_
        rintro e w4 ⟨rfl, hP4, hM4⟩
        rw [show (noSlot.age) = 0 from rfl, filled_set ls k 64 (by rw [Hgl.out]; exact hlt) (by omega)] at hP4
        go_wp2
        exact ⟨⟨k + 1, by omega, by simp, by simpa using hP4, hM.trans hM4⟩, by simp [intOf]; omega⟩
      · obtain rfl : k = n := by omega
        obtain ⟨hs1, hs2⟩ := hst
        obtain ⟨t1, t2⟩ := pickN_range (c := stop) (n := 65) (by omega)
        go_wp2_with fail
        refine (pick3_any stop 65 wr hs1 hs2 (by decide) (by decide)).mono ?_
        rintro e wr' ⟨rfl, rfl⟩
        obtain ⟨st, hst⟩ : ∃ st : Nat, pickN stop 65 = (st : Int) := ⟨(pickN stop 65).toNat, by omega⟩
        rw [hst]
        rw [hst] at t1 t2
        clear hst
        go_wp2_with fail
        refine (all_any _ _).mono ?_
        rintro e w5 ⟨rfl, rfl⟩
        go_wp2_with fail
        obtain ⟨V, hV⟩ : ∃ V, ((wr.setCell ⟨w.heap.size + 1, 0, none⟩ (.int .i64 st)).alloc (.cells #[.int .i64 0] 3)).alloc (.cells #[.pointer (some ⟨p, 0, none⟩)] 30) = V := ⟨_, rfl⟩
        have hsr := v0.lt
        have hsp := hP.head.lt
        have hss := hP.slots.lt
        have q0 : Blk V w.heap.size 26 [.slice la k lc] := by rw [← hV]; exact ((v0.setCell_ne (by simp only; omega) _).alloc _).alloc _
        have q1 : Blk V (w.heap.size + 1) 3 [.int .i64 st] := by rw [← hV]; exact ((v1.set 0 _).alloc _).alloc _
        have q2 : Blk V (w.heap.size + 1 + 1) 4 [.bool false] := by rw [← hV]; exact ((v2.setCell_ne (by simp only; omega) _).alloc _).alloc _
        have q3 : Blk V wr.heap.size 3 [.int .i64 0] := by rw [← hV]; exact (Blk.newAt (by simp) 3 [_]).alloc _
        have q4 : Blk V (wr.heap.size + 1) 30 [.pointer (some ⟨p, 0, none⟩)] := by rw [← hV]; exact Blk.newAt (by simp) 30 [_]
        have mV : Mod (fun j => w.heap.size ≤ j) w V := by
          rw [← hV]
          exact ((mW.setCell (p := ⟨w.heap.size + 1, 0, none⟩) (fun _ => by simp only; omega) _).alloc _).alloc _
        have hPV : PoolAt V p sb 64 (filled ls k 64) k := by
          rw [← hV]
          exact hP.mod ((((Mod.refl (fun j => j = w.heap.size + 1) _).setCell (p := ⟨w.heap.size + 1, 0, none⟩) (fun _ => rfl) _).alloc _).alloc _) (by omega) (by omega)
        have hVs : V.heap.size = wr.heap.size + 2 := by rw [← hV]; simp
        have hlR := hr.same mV.size (fun b _ hlt => mV.block b hlt (by omega))
        rw [hV]
        have hbn3 : w.heap.size + 3 ≤ wr.heap.size := by omega
        have hpb : p < wr.heap.size ∧ sb < wr.heap.size := by omega
        clear hV v0 v1 v2 cv0 cv1 cv2 fv1 hrR mW hM hsr hsp hss
        refine wpIn_wide.1 (range_list (F := Fence.wide) (n := 3) rfl (by decide) (gf := 46) (lb := #[.pointer (some ⟨wr.heap.size + 1, 0, none⟩)]) rfl trivial (enters_of Try.func46 (by kernel_rfl) rfl)
          (all_seq 2 (by decide) (wr.heap.size + 1) p sb 64 _ _ V q4 hPV)
          (by
            intro b hb
            simp only [List.mem_cons, List.not_mem_nil, or_false] at hb
            rcases hb with rfl | rfl | rfl <;> omega)
          (Below.refl _ _) (fun _ => rfl)
          (fun pre W => pre.length ≤ st ∧ Mod (fun j => j = wr.heap.size ∨ V.heap.size ≤ j) V W ∧ Blk W wr.heap.size 3 [.int .i64 pre.length])
          (fun c pre W => c = .exit 2 ∧ pre.length = st + 1 ∧ Mod (fun j => j = wr.heap.size ∨ V.heap.size ≤ j) V W ∧ Blk W wr.heap.size 3 [.int .i64 st])
          ?own ?ownx ⟨Nat.zero_le _, Mod.refl _ _, q3⟩
          (fun q => { tmps := List.toArray (.slice la n0 lc :: .int .i64 stop :: .pointer (some ⟨w.heap.size, 0, none⟩) :: .pointer (some ⟨w.heap.size + 1, 0, none⟩) :: .pointer (some ⟨w.heap.size + 1 + 1, 0, none⟩) :: .bool true :: .pointer (some ⟨p, 0, none⟩) :: .int .i64 0 :: .int .i64 k :: .pointer (some ⟨wr.heap.size, 0, none⟩) :: .int .i64 q.1 :: .int .i64 q.2 :: .bool true :: .tuple #[.pointer (some ⟨p, 0, none⟩), .int .i64 0] :: .tuple #[.pointer (some ⟨p, 0, none⟩), .int .i64 0] :: .pointer (some ⟨p, 0, none⟩) :: .int .i64 0 :: .bool true :: .bool false :: .bool false :: .pointer (some ⟨p, 0, none⟩) :: .bool false :: .bool false :: .bool false :: .int .i64 0 :: .bool false :: .bool false :: u27 :: u28 :: u29 :: u30 :: u31 :: .int .i64 k :: .slice la k lc :: .int .i64 k :: .bool false :: u36 :: u37 :: u38 :: u39 :: u40 :: u41 :: u42 :: u43 :: .int .i64 stop :: .int .i64 st :: .pointer (some ⟨p, 0, none⟩) :: .func (.func 46) #[] #[.pointer (some ⟨wr.heap.size + 1, 0, none⟩)] :: .int .i64 q.1 :: .int .i64 q.2 :: undef :: undef :: undef :: undef :: undef :: undef :: undef :: undef :: undef :: undef :: undef :: undef :: undef :: undef :: undef :: undef :: undef :: undef :: undef :: undef :: undef :: undef :: undef :: []), defers := [] })
          ?assign ?body ?done ?stop)
        case own => exact fun pre A B row hs hg hr => ⟨hs.1, hs.2.1.grown hg (fun j e _ => .inr (hr j e).1), hs.2.2.grown hg (fun e => by have := (hr _ e).1; omega)⟩
        case ownx => exact fun c pre A B row hs hg hr => ⟨hs.1, hs.2.1, hs.2.2.1.grown hg (fun j e _ => .inr (hr j e).1), hs.2.2.2.grown hg (fun e => by have := (hr _ e).1; omega)⟩
        case assign =>
          intro l q W K hK
          gi_wp2
          exact hK
        case body =>
          rintro l pre x W hl ⟨r, hrr⟩ ⟨hst, hM, h3⟩ ⟨post, hpost⟩
          rw [filled_all ls k 64 (by rw [Hgl.out]; omega) 64 (Nat.le_refl _), Nat.min_eq_right (by omega)] at hpost
          obtain ⟨hlt, rfl⟩ := firstPairs_split hpost
          obtain ⟨lb, lo, rfl⟩ := hlR.addr (by omega)
          have mWW : Mod (fun j => w.heap.size ≤ j) w W := mV.trans (hM.mono (fun j _ h => by rcases h with rfl | h <;> omega))
          have hlW := hr.same mWW.size (fun b _ hlt' => mWW.block b hlt' (by omega))
          have cl := hlW.int Hgl.out hlt
          have i0 := (q0.mod hM (by omega)).cell 0
          have i1 := (q1.mod hM (by omega)).cell 0
          have i3 := h3.cell 0
          have j3 := h3.frozen 0
          simp only [List.getElem?_cons_zero] at i0 i1 i3
          have hmk : (pre.length : Int) < (k : Int) := by omega
          clear hpost
          by_cases hb : pre.length = st
          · have e1 : ((pre.length : Int) == (st : Int)) = true := by simp [hb]
            have Hb := Lib.hid hb
            clear hb
            gi_wp2
            exact ⟨KeepsOthers.refl _, rfl, by simp [Hb.out], hM, by rw [← Hb.out]; exact h3⟩
          · have e1 : ((pre.length : Int) == (st : Int)) = false := by
              have : ¬ (pre.length : Int) = st := by omega
              simpa using this
            have e2 : ((pre.length : Int) + 1 != (pre.length : Int) + 1) = false := by simp
            have e3 : (ls[pre.length]?.getD 0 != ls[pre.length]?.getD 0) = false := by simp
            have Hb := Lib.hid hb
            clear hb
            gi_wp2
            have hWs := hM.size
            refine ⟨KeepsOthers.setCell _ _ _, KeepB.mod (S := fun j => j = wr.heap.size) ((Mod.refl (fun j => j = wr.heap.size) _).setCell (p := ⟨wr.heap.size, 0, none⟩) (fun _ => rfl) _) (fun b hb => ?_), ?_, hM.setCell (fun _ => .inl rfl) _, ?_⟩
            · simp only [List.mem_cons, List.not_mem_nil, or_false] at hb
              rcases hb with rfl | rfl | rfl <;> omega
            · have := Hb.out
              rw [List.length_append]
              simp only [List.length_cons, List.length_nil]
              omega
            · have := h3.set 0 (.int .i64 ((pre.length : Int) + 1))
              rw [List.length_append]
              simpa using this
        case done =>
          intro D W hD ⟨h1, hM, h3⟩ hK
          rw [filled_all ls k 64 (by rw [Hgl.out]; omega) 64 (Nat.le_refl _), Nat.min_eq_right (by omega), firstPairs_len] at h1 h3
          have i0 := (q0.mod hM (by omega)).cell 0
          have i1 := (q1.mod hM (by omega)).cell 0
          have r2 := q2.mod hM (by omega)
          have i2 := r2.cell 0
          have j2 := r2.frozen 0
          have i3 := h3.cell 0
          simp only [List.getElem?_cons_zero] at i0 i1 i2 i3
          rcases Nat.lt_or_ge k st with hks | hks
          · have e2 : ((k : Int) == (k : Int)) = true := by simp
            gi_wp2
            go_wp2
            have mW2 := (mV.trans (hM.mono (fun j _ h => by rcases h with rfl | h <;> omega))).setCell (p := ⟨w.heap.size + 1 + 1, 0, none⟩) (fun _ => by simp only; omega) (.bool true)
            have hK2 : (W.setCell ⟨w.heap.size + 1 + 1, 0, none⟩ (.bool true)).heap[D]? = some (.deferred (some [])) := by
              rw [Below.heap_setCell _ _ _ _ (by simp only; omega)]
              exact hK
            refine ⟨by simp, .inl ⟨_, _, rfl, run_takeDeferred hK2, ?_⟩⟩
            have g2 := ((r2.set 0 (.bool true)).mod ((Mod.refl (fun j => j = D) _).putObj D (.deferred none) (fun _ => rfl)) (by omega)).cell 0
            simp only [List.set_cons_zero, List.getElem?_cons_zero] at g2
            refine ⟨.bool true, ?_, rfl, (mW2.putObj D _ (fun h => by omega)).below (Nat.le_refl _) (fun j h1 h2 => by omega)⟩
            simp [results, Try.f8, go_sem, g2]
          · obtain rfl : st = k := by omega
            have hks' : ¬ st < st := by omega
            have e2 : ((st : Int) == (st : Int)) = true := by simp
            gi_wp2
            go_wp2
            have mW2 := (mV.trans (hM.mono (fun j _ h => by rcases h with rfl | h <;> omega))).setCell (p := ⟨w.heap.size + 1 + 1, 0, none⟩) (fun _ => by simp only; omega) (.bool true)
            have hK2 : (W.setCell ⟨w.heap.size + 1 + 1, 0, none⟩ (.bool true)).heap[D]? = some (.deferred (some [])) := by
              rw [Below.heap_setCell _ _ _ _ (by simp only; omega)]
              exact hK
            refine ⟨by simp, .inl ⟨_, _, rfl, run_takeDeferred hK2, ?_⟩⟩
            have g2 := ((r2.set 0 (.bool true)).mod ((Mod.refl (fun j => j = D) _).putObj D (.deferred none) (fun _ => rfl)) (by omega)).cell 0
            simp only [List.set_cons_zero, List.getElem?_cons_zero] at g2
            refine ⟨.bool true, ?_, rfl, (mW2.putObj D _ (fun h => by omega)).below (Nat.le_refl _) (fun j h1 h2 => by omega)⟩
            simp [results, Try.f8, go_sem, g2]
        case stop =>
          rintro D c pre W hD ⟨post, hpost⟩ ⟨rfl, h1, hM, h3⟩ hK
          rw [filled_all ls k 64 (by rw [Hgl.out]; omega) 64 (Nat.le_refl _), Nat.min_eq_right (by omega)] at hpost
          have hlen := congrArg List.length hpost
          rw [firstPairs_len, List.length_append] at hlen
          have i0 := (q0.mod hM (by omega)).cell 0
          have i1 := (q1.mod hM (by omega)).cell 0
          have r2 := q2.mod hM (by omega)
          have i2 := r2.cell 0
          have j2 := r2.frozen 0
          have i3 := h3.cell 0
          simp only [List.getElem?_cons_zero] at i0 i1 i2 i3
          have hks : ¬ k < st := by omega
          have e2 : ((st : Int) == (st : Int)) = true := by simp
          gi_wp2
          go_wp2
          have mW2 := (mV.trans (hM.mono (fun j _ h => by rcases h with rfl | h <;> omega))).setCell (p := ⟨w.heap.size + 1 + 1, 0, none⟩) (fun _ => by simp only; omega) (.bool true)
          have hK2 : (W.setCell ⟨w.heap.size + 1 + 1, 0, none⟩ (.bool true)).heap[D]? = some (.deferred (some [])) := by
            rw [Below.heap_setCell _ _ _ _ (by simp only; omega)]
            exact hK
          refine ⟨by simp, .inl ⟨_, _, rfl, run_takeDeferred hK2, ?_⟩⟩
          have g2 := ((r2.set 0 (.bool true)).mod ((Mod.refl (fun j => j = D) _).putObj D (.deferred none) (fun _ => rfl)) (by omega)).cell 0
          simp only [List.set_cons_zero, List.getElem?_cons_zero] at g2
          refine ⟨.bool true, ?_, rfl, (mW2.putObj D _ (fun h => by omega)).below (Nat.le_refl _) (fun j h1 h2 => by omega)⟩
          simp [results, Try.f8, go_sem, g2]
end Go.Proofs.Ytafljpfephomoaa
