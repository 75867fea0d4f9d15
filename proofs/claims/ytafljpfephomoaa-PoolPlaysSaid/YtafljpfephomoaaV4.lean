/- law03's same: a pool and the document's have the same. -/
import Derived.Test.YtafljpfephomoaaV3
import Derived.Test.YtafljpfephomoaaU4
import Derived.Test.YtafljpfephomoaaR
namespace Go.Proofs.Ytafljpfephomoaa
open Go.RowKit Go.Shelf
attribute [local go_sem] Oper.semAt_some
theorem Rd.block_lt {w : World} {b off n cap sz : Nat} {xs : List Value} (h : Rd w (.slice (some ⟨b, off, none⟩) n cap) n sz xs) (hn : n ≠ 0) : b < w.heap.size := by
  obtain ⟨ao, c, e, h1, h2, h3, h4⟩ := h
  obtain ⟨b', off', e2, h5, h6⟩ := h4 hn
  subst e2
  simp only [Value.slice.injEq, Option.some.injEq, Addr.mk.injEq, and_true, true_and] at e
  obtain ⟨⟨rfl, rfl⟩, _⟩ := e
  exact h5
theorem PoolAt.drew {w : World} {p sb n cp : Nat} {ex : List Value} {sl : List Slot} {many : Int} (h : PoolAt w p sb n cp ex sl many) : PoolAt w.drew p sb n cp ex sl many := ⟨h.len, h.head, h.slots, h.ne, h.room, h.ages, h.many, h.cap⟩
theorem allTo_room (sl : List Slot) (n : Nat) (h : sl.length = n) : (allTo sl n).length = cnt sl := by rw [← h]; exact allTo_all sl
theorem hsOf_at {L pre post : List (Int × Int)} {x : Int × Int} (h : L = pre ++ x :: post) : (hsOf L)[pre.length]?.getD 0 = x.1 := by
  rw [h]; simp [hsOf]
theorem xsOf_at {L pre post : List (Int × Int)} {x : Int × Int} (h : L = pre ++ x :: post) : (xsOf L)[pre.length]?.getD 0 = x.2 := by
  rw [h]; simp [xsOf]
set_option maxRecDepth 100000 in
set_option maxHeartbeats 4000000 in
theorem same3_any (p sb n cp : Nat) (ex : List Value) (sl : List Slot) (many : Int) (r rb : Nat) (w : World) (hp : PoolAt w p sb n cp ex sl many) (hr : RefAt w r rb n sl) :
    Calls Try.prog 37 #[.pointer (some ⟨p, 0, none⟩), .pointer (some ⟨r, 0, none⟩)] w fun e w' => e = .returned (.bool true) ∧ Below w.heap.size w w' := by
  have hlt0 := hp.head.lt
  have hlt1 := hp.slots.lt
  have hlt2 := hr.head.lt
  have hlt3 := hr.slots.lt
  have hroom := hp.room
  have hlen : (allTo sl n).length = cnt sl := allTo_room sl n hp.len
  have hmany : many = ((allTo sl n).length : Int) := by rw [hlen]; exact hp.many
  have hTn := allTo_le sl n
  have Hmany := Lib.hid hmany
  clear hlen hmany
  refine (callsIn_wide (n := 4)).1 ?_
  refine callsIn_of_wp_marks Try.func37 rfl trivial ?_ rfl
  simp only [Try.ntmps37, List.size_toArray, List.length_cons, List.length_nil, Nat.reduceAdd, Nat.reduceSub, Array.replicate_succ, Array.replicate_zero, List.push_toArray, List.append_toArray, List.nil_append, List.cons_append]
  refine wpIn_wide.2 ?_
  go_wp2_with fail
  have BA : Below w.heap.size w (w.alloc (.cells #[.bool false] 4)) := (Below.refl _ w).alloc (Nat.le_refl _) _
  refine (refall_any r rb n sl _ (hr.below BA hlt2 hlt3)).mono ?_
  rintro e w1 ⟨lv, mv, rfl, ol, om, B1⟩
  obtain ⟨la, lc, rfl, l1, l2⟩ := (Rd.of_own ol).shape
  obtain ⟨ma, mc, rfl, m1, m2⟩ := (Rd.of_own om).shape
  have hz1 := B1.size
  simp only [World.size_alloc] at hz1
  obtain ⟨L, hL⟩ : ∃ L, L = allTo sl n := ⟨_, rfl⟩
  obtain ⟨T, hT⟩ : ∃ T, T = L.length := ⟨_, rfl⟩
  rw [← hL, ← hT] at ol om l1 m1 hTn
  have HL := Lib.hid hL
  have HT := Lib.hid hT
  simp only [← hL, ← hT]
  have rl := Rd.of_own ol
  have rm := Rd.of_own om
  have hl1 : (hsOf L).length = T := by rw [hsOf_len]; exact HT.out.symm
  have hl2 : (xsOf L).length = T := by simp [xsOf]; exact HT.out.symm
  have z4 : Blk w1 w.heap.size 4 [.bool false] := (Blk.new w 4 [_]).below B1 (by simp)
  clear hL hT
  have Hl1 := Lib.hid hl1
  have Hl2 := Lib.hid hl2
  clear hl1 hl2
  go_wp2_with fail
  refine (all_any _ _).mono ?_
  rintro e w2 ⟨rfl, rfl⟩
  go_wp2_with fail
  obtain ⟨V, hV⟩ : ∃ V, (((w1.alloc (.cells #[.slice la T lc] 26)).alloc (.cells #[.slice ma T mc] 26)).alloc (.cells #[.int .i64 0] 3)).alloc (.cells #[.pointer (some ⟨p, 0, none⟩)] 30) = V := ⟨_, rfl⟩
  have q4 : Blk V w.heap.size 4 [.bool false] := by rw [← hV]; exact (((z4.alloc _).alloc _).alloc _).alloc _
  have q5 : Blk V w1.heap.size 26 [.slice la T lc] := by rw [← hV]; exact (((Blk.new w1 26 [_]).alloc _).alloc _).alloc _
  have q6 : Blk V (w1.heap.size + 1) 26 [.slice ma T mc] := by rw [← hV]; exact ((Blk.newAt (by simp) 26 [_]).alloc _).alloc _
  have q7 : Blk V (w1.heap.size + 1 + 1) 3 [.int .i64 0] := by rw [← hV]; exact (Blk.newAt (by simp) 3 [_]).alloc _
  have q8 : Blk V (w1.heap.size + 1 + 1 + 1) 30 [.pointer (some ⟨p, 0, none⟩)] := by rw [← hV]; exact Blk.newAt (by simp) 30 [_]
  have BV : Below w1.heap.size w1 V := by
    rw [← hV]
    exact ((((Below.refl _ _).alloc (Nat.le_refl _) _).alloc (by simp) _).alloc (by simp; omega) _).alloc (by simp; omega) _
  have hVs : V.heap.size = w1.heap.size + 4 := by rw [← hV]; simp
  rw [hV]
  clear hV z4
  have B0V : Below w.heap.size w V := (BA.trans (B1.mono (by simp))).trans (BV.mono (by omega))
  have hPV := hp.below B0V hlt0 hlt1
  have rlV := rl.new BV
  have rmV := rm.new BV
  have HVs := Lib.hid hVs
  refine wpIn_wide.1 (range_list (F := Fence.wide) (n := 3) rfl (by decide) (gf := 46) (lb := #[.pointer (some ⟨w1.heap.size + 1 + 1 + 1, 0, none⟩)]) rfl trivial (enters_of Try.func46 (by kernel_rfl) rfl)
    (all_seq 2 (by decide) (w1.heap.size + 1 + 1 + 1) p sb n _ _ V q8 hPV)
    (by
      intro b hb
      simp only [List.mem_cons, List.not_mem_nil, or_false] at hb
      rcases hb with rfl | rfl | rfl <;> omega)
    (Below.refl _ _) (fun _ => rfl)
    (fun pre W => Mod (fun j => j = w1.heap.size + 1 + 1 ∨ V.heap.size ≤ j) V W ∧ Blk W (w1.heap.size + 1 + 1) 3 [.int .i64 pre.length])
    (fun _ _ _ => False)
    ?own ?ownx ⟨Mod.refl _ _, q7⟩
    (fun x => { tmps := List.toArray (.pointer (some ⟨p, 0, none⟩) :: .pointer (some ⟨r, 0, none⟩) :: undef :: undef :: .pointer (some ⟨w.heap.size, 0, none⟩) :: .pointer (some ⟨w1.heap.size, 0, none⟩) :: .pointer (some ⟨w1.heap.size + 1, 0, none⟩) :: .pointer (some ⟨w1.heap.size + 1 + 1, 0, none⟩) :: .int .i64 x.1 :: .int .i64 x.2 :: .tuple #[.slice la T lc, .slice ma T mc] :: .pointer (some ⟨r, 0, none⟩) :: .tuple #[.slice la T lc, .slice ma T mc] :: .slice la T lc :: .slice ma T mc :: .pointer (some ⟨p, 0, none⟩) :: .func (.func 46) #[] #[.pointer (some ⟨w1.heap.size + 1 + 1 + 1, 0, none⟩)] :: .int .i64 x.1 :: .int .i64 x.2 :: undef :: undef :: undef :: undef :: undef :: undef :: undef :: undef :: undef :: undef :: undef :: undef :: undef :: undef :: undef :: undef :: undef :: undef :: undef :: undef :: undef :: undef :: undef :: undef :: undef :: undef :: undef :: undef :: undef :: undef :: undef :: undef :: []), defers := [] })
    ?assign ?body ?done ?stop)
  case own => exact fun pre A B row hs hg hr => ⟨hs.1.grown hg (fun j e _ => .inr (hr j e).1), hs.2.grown hg (fun e => by have := (hr _ e).1; omega)⟩
  case ownx => exact fun c pre A B row hs hg hr => hs
  case assign =>
    intro l x W K hK
    gi_wp2
    exact hK
  case stop => exact fun D c pre W hD hpos hs hK => hs.elim
  case body =>
    rintro l pre x W hl ⟨r', hrr⟩ ⟨hM, h3⟩ ⟨post, hpost⟩
    rw [← HL.out] at hpost
    have hx1 := hsOf_at hpost
    have hx2 := xsOf_at hpost
    have hlt : pre.length < T := by
      have := congrArg List.length hpost
      rw [← HT.out] at this
      simp at this
      omega
    obtain ⟨x1, x2⟩ := x
    simp only at hx1 hx2
    obtain ⟨lb, lo, rfl⟩ := rlV.addr (by omega)
    obtain ⟨mb, mo, rfl⟩ := rmV.addr (by omega)
    have hw1 := rl.at (i := pre.length) (by omega)
    have hlb : lb < w1.heap.size := rl.block_lt (by omega)
    have hmb : mb < w1.heap.size := rm.block_lt (by omega)
    have cl := (rlV.mod hM (fun b hb => by simp [Value.ownBlock] at hb; omega)).int Hl1.out hlt
    have cm := (rmV.mod hM (fun b hb => by simp [Value.ownBlock] at hb; omega)).int Hl2.out hlt
    rw [hx1] at cl
    rw [hx2] at cm
    have i5 := (q5.mod hM (by omega)).cell 0
    have i6 := (q6.mod hM (by omega)).cell 0
    have i7 := h3.cell 0
    have j7 := h3.frozen 0
    simp only [List.getElem?_cons_zero] at i5 i6 i7
    have hltI : (pre.length : Int) < (T : Int) := by omega
    have hxx1 : (x1 != x1) = false := by simp
    have hxx2 : (x2 != x2) = false := by simp
    have hM2 := hM
    clear hpost hx1 hx2 hw1
    gi_wp2
    have hWs := hM.size
    refine ⟨KeepsOthers.setCell _ _ _, KeepB.mod (S := fun j => j = w1.heap.size + 1 + 1) ((Mod.refl (fun j => j = w1.heap.size + 1 + 1) _).setCell (p := ⟨w1.heap.size + 1 + 1, 0, none⟩) (fun _ => rfl) _) (fun b hb => ?_), hM.setCell (fun _ => .inl rfl) _, ?_⟩
    · simp only [List.mem_cons, List.not_mem_nil, or_false] at hb
      rcases hb with rfl | rfl | rfl <;> omega
    · have := h3.set 0 (.int .i64 ((pre.length : Int) + 1))
      rw [List.length_append]
      simpa using this
  case done =>
    intro D W hD ⟨hM, h3⟩ hK
    rw [← HL.out, ← HT.out] at h3
    have r4 := q4.mod hM (by omega)
    have f4 := r4.frozen 0
    have i5 := (q5.mod hM (by omega)).cell 0
    have i7 := h3.cell 0
    have i4 := r4.cell 0
    simp only [List.getElem?_cons_zero] at i5 i7 i4
    have k5 : ∀ v, (W.setCell ⟨w.heap.size, 0, none⟩ v).drew.cell? ⟨w1.heap.size, 0, none⟩ = some (.slice la T lc) := fun v => by
      have := (((q5.mod hM (by omega)).setCell_ne (p := ⟨w.heap.size, 0, none⟩) (by simp only; omega) v).drew).cell 0
      simpa using this
    have k7 : ∀ v, (W.setCell ⟨w.heap.size, 0, none⟩ v).drew.cell? ⟨w1.heap.size + 1 + 1, 0, none⟩ = some (.int .i64 T) := fun v => by
      have := ((h3.setCell_ne (p := ⟨w.heap.size, 0, none⟩) (by simp only; omega) v).drew).cell 0
      simpa using this
    have hPW := hPV.mod hM (by omega) (by omega)
    have hm := Hmany.out
    rw [← HL.out, ← HT.out] at hm
    subst hm
    have hTT : ((T : Int) == (T : Int)) = true := by simp
    gi_wp2
    go_wp2_with fail
    go_region_held3 (fun wx => wx.cell? ⟨w1.heap.size, 0, none⟩ = some (.slice la T lc) ∧ wx.cell? ⟨w1.heap.size + 1 + 1, 0, none⟩ = some (.int .i64 T))
      (first | go_keep | exact ⟨k5 _, k7 _⟩)
      ((go_at_call 20; refine (len_any p sb n _ _ _ hPW.drew).mono ?_; rintro e wm ⟨rfl, rfl⟩))
    go_wp2
    have bW := B0V.trans (hM.below (B := w.heap.size) (by omega) (fun j h1 h2 => by omega))
    have q := (r4.set 0 (.bool true)).drew
    have hK2 : (W.setCell ⟨w.heap.size, 0, none⟩ (.bool true)).drew.heap[D]? = some (.deferred (some [])) := by
      show (W.setCell ⟨w.heap.size, 0, none⟩ (.bool true)).heap[D]? = _
      rw [Below.heap_setCell _ _ _ _ (by simp only; omega)]
      exact hK
    have bW2 := (bW.setCell (p := ⟨w.heap.size, 0, none⟩) (by simp) (.bool true)).drew
    generalize (W.setCell ⟨w.heap.size, 0, none⟩ (.bool true)).drew = U at hK2 q bW2
    have m1 : Mod (fun j => j = D) U (U.putObj D (.deferred none)) := (Mod.refl _ _).putObj D _ (fun _ => rfl)
    refine ⟨by simp, .inl ⟨_, _, rfl, run_takeDeferred hK2, ?_⟩⟩
    have g2 := (q.mod m1 (by omega)).cell 0
    simp only [List.set_cons_zero, List.getElem?_cons_zero] at g2
    refine ⟨.bool true, ?_, rfl, bW2.trans (m1.below (B := w.heap.size) bW2.size (fun j h1 h2 => by omega))⟩
    simp [results, Try.f37, go_sem, g2]
end Go.Proofs.Ytafljpfephomoaa
