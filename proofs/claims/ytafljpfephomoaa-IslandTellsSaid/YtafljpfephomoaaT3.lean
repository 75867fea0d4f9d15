/- IslandTells: the walk. -/
import Derived.Test.YtafljpfephomoaaT2
import Derived.Test.YtafljpfephomoaaAp
import Derived.Deep.DeepCutAuto
import Derived.Deep.RegionHeld3
namespace Go.Proofs.Ytafljpfephomoaa
open Go.RowKit
theorem ints_one {xs : List Int} : ∀ u ∈ ints xs, u.oneCell' = true := by
  intro u hu
  obtain ⟨x, _, rfl⟩ := List.mem_map.1 hu
  rfl
set_option maxRecDepth 100000 in
set_option maxHeartbeats 8000000 in
theorem tells_any (n : Int) (lv wv qv : Value) (nl nw m : Nat) (ls : List (Int × Int)) (ws : List Bool) (qs : List Int) (need : Int) (hnl : ls.length = nl) (hnw : ws.length = nw) (hm : qs.length = m) (w : World) (hl : Rd w lv nl 2 (pairCells ls)) (hw : Rd w wv nw 1 (bools ws)) (hq : Rd w qv m 1 (ints qs)) :
    Calls Try.prog 5 #[.int .i64 n, lv, wv, qv, .int .i64 need] w fun e w' => e = .returned (.bool true) ∧ Below w.heap.size w w' := by
  obtain ⟨la, lc, rfl, l1, l2⟩ := hl.shape
  obtain ⟨wa, wc, rfl, w1, w2⟩ := hw.shape
  obtain ⟨qa, qc, rfl, q1, q2⟩ := hq.shape
  obtain ⟨i3, hi3, hz3a, hz3b, hz3c⟩ := info_parts info3
  have Hnl := Lib.hid hnl; clear hnl
  have Hnw := Lib.hid hnw; clear hnw
  have Hm := Lib.hid hm; clear hm
  go_enter Try.func5, Try.ntmps5
  go_wp2_with fail
  refine (awake_any _).mono ?_
  rintro e w0 ⟨rfl, B0⟩
  by_cases hbig : 200 < nl
  · go_upto_if 20 with (fail)
    go_cut [0] (fun v wx => ∃ n', v = .int .i64 n' ∧ n' ≤ 60 ∧ wx = w0)
    case first =>
      go_wp2
      all_goals
        go_meet
        first | exact ⟨_, rfl, by omega, rfl⟩
    case rest =>
      obtain ⟨n', rfl, hn', rfl⟩ := hcut
      go_wp2
      go_ret
      exact ⟨rfl, B0⟩
  · go_upto_if 20 with (fail)
    go_cut [0] (fun v wx => ∃ n', v = .int .i64 n' ∧ n' ≤ 60 ∧ wx = w0)
    case first =>
      go_wp2
      all_goals
        go_meet
        first | exact ⟨_, rfl, by omega, rfl⟩
    case rest =>
      obtain ⟨n', rfl, hn', rfl⟩ := hcut
      obtain ⟨N, hN⟩ : ∃ N : Nat, (N : Int) = min (max n' 0) 4096 := ⟨(min (max n' 0) 4096).toNat, by omega⟩
      have hN60 : N ≤ 60 := by omega
      have HN := Lib.hid hN
      clear hN
      go_wp2_with fail
      refine (groups_at n' _ _ ls ws nl nw Hnl.out Hnw.out N HN.out wc (hl.new B0) (hw.new B0) (by omega)).mono ?_
      rintro e w1 ⟨gv, rfl, og, B1⟩
      have B01 := B0.trans (B1.mono B0.size)
      go_wp2_with fail
      refine (refgroups_any n' _ _ ls ws nl nw Hnl.out Hnw.out N HN.out w1 (hl.new B01) (hw.new B01)).mono ?_
      rintro e w2 ⟨rv, rfl, or, B2⟩
      have B02 := B01.trans (B2.mono B01.size)
      go_wp2_with fail
      have hlen := groupsN_len N ws ls
      generalize groupsN N ws ls = G at og or hlen
      have Hlen := Lib.hid hlen
      clear hlen
      refine (numbers_eq gv rv N G Hlen.out w2 ((Rd.of_own og).new B2) (Rd.of_own or)).mono ?_
      rintro e w3 ⟨rfl, j3, rfl⟩
      obtain ⟨ra, rc, rfl, r1, r2⟩ := (Rd.of_own or).shape
      go_upto_region 10 with (fail)
      have B3 : Below w.heap.size w (w2.drewN j3) := Below.drewN' B02 j3
      have hsz3 := B3.size
      have or3 : Rd (w2.drewN j3).drew (.slice ra N rc) N 1 (ints G) := ((Rd.of_own or).drewN j3).drew
      go_cut [14] (fun v wx => ∃ k : Nat, k ≤ 40 ∧ k ≤ m ∧ wx.ownsRow w.heap.size 3 1 v (N + k) (ints (G ++ qs.take k)) ∧ Below w.heap.size w wx)
      case first =>
        have i1 : (0 : Int) ≤ (m : Int) := by omega
        have i2 : (m : Int) ≤ (qc : Int) := by omega
        have i3' : ¬ (m : Int) < 0 := by omega
        rcases (show ¬ (40 : Int) < (m : Int) ∨ (40 : Int) < (m : Int) by omega) with hmin | hmin
        · go_region_held3 (fun _ => True) (trivial) (first
            | (refine step_append_rd (by rfl) _ _ _ (by rfl) w.heap.size 3 i3 (.int .i64 0) 1 8 Try.underlying26 hi3 hz3a hz3b hz3c rfl (by decide) _ 0 [] (by rfl) (World.ownsRow_nil _ _ _ _) (.slice ra N rc) N (ints G) (by rfl) or3 ints_one (by unfold maxLen; omega) (by omega) (by simpa using hsz3) ?_
               intro v4 w4 o4 hg4 hat4
               simp only [Nat.zero_add, List.nil_append] at o4
               have B4 : Below w.heap.size w w4 := (B3.drew).grown hg4 hsz3 (fun r e => by simp [Value.ownBlock] at e)
               have hsz4 := B4.size
               have hq4 := hq.new B4)
            | (refine step_append_rd (by rfl) _ _ _ (by rfl) w.heap.size 3 i3 (.int .i64 0) 1 8 Try.underlying26 hi3 hz3a hz3b hz3c rfl (by decide) _ N (ints G) (by rfl) o4 _ m (ints qs) (by rfl) hq4 ints_one (by unfold maxLen; omega) (by omega) hsz4 ?_
               intro v5 w5 o5 hg5 hat5))
          all_goals
            have B5 : Below w.heap.size w w5 := B4.grown hg5 hsz4 (fun r e => ownBlock_ge o4 e)
            go_wp2
            go_meet
            exact ⟨m, by omega, by omega, by rw [List.take_of_length_le (Nat.le_of_eq Hm.out)]; simpa [ints] using o5, B5⟩
        · have i4 : (40 : Int) ≤ (qc : Int) := by omega
          go_region_held3 (fun _ => True) (trivial) (first
            | (refine step_append_rd (by rfl) _ _ _ (by rfl) w.heap.size 3 i3 (.int .i64 0) 1 8 Try.underlying26 hi3 hz3a hz3b hz3c rfl (by decide) _ 0 [] (by rfl) (World.ownsRow_nil _ _ _ _) (.slice ra N rc) N (ints G) (by rfl) or3 ints_one (by unfold maxLen; omega) (by omega) (by simpa using hsz3) ?_
               intro v4 w4 o4 hg4 hat4
               simp only [Nat.zero_add, List.nil_append] at o4
               have B4 : Below w.heap.size w w4 := (B3.drew).grown hg4 hsz3 (fun r e => by simp [Value.ownBlock] at e)
               have hsz4 := B4.size
               have hq4 : Rd w4 (.slice qa 40 qc) 40 1 (ints (qs.take 40)) := by
                 have := (hq.new B4).take (k := 40) (by omega)
                 rwa [Nat.mul_one, show (ints qs).take 40 = ints (qs.take 40) by simp [ints]] at this)
            | (refine step_append_rd (by rfl) _ _ _ (by rfl) w.heap.size 3 i3 (.int .i64 0) 1 8 Try.underlying26 hi3 hz3a hz3b hz3c rfl (by decide) _ N (ints G) (by rfl) o4 _ 40 (ints (qs.take 40)) (by rfl) hq4 ints_one (by unfold maxLen; omega) (by omega) hsz4 ?_
               intro v5 w5 o5 hg5 hat5))
          all_goals
            have B5 : Below w.heap.size w w5 := B4.grown hg5 hsz4 (fun r e => ownBlock_ge o4 e)
            go_wp2
            go_meet
            exact ⟨40, by omega, by omega, by simpa [ints] using o5, B5⟩
      case rest =>
        obtain ⟨k, hk, hkm, o4, B4⟩ := hcut
        have hsz4 := B4.size
        have hL4 : (G ++ qs.take k).length = N + k := by rw [List.length_append, Hlen.out, List.length_take, Hm.out]; omega
        generalize G ++ qs.take k = H at o4 hL4
        have HL4 := Lib.hid hL4
        clear hL4
        have hr4 := Rd.of_own o4
        go_wp2_with fail
        refine (rest_any _ _ (N + k) m H qs HL4.out Hm.out need _ hr4 (hq.new B4) (by omega)).mono ?_
        rintro e w5 ⟨xv, rfl, o5, B5⟩
        have B45 := B4.trans (B5.mono hsz4)
        go_wp2_with fail
        refine (refrest_any _ _ (N + k) m H qs HL4.out Hm.out need _ (hr4.new B5) (hq.new B45) (by omega)).mono ?_
        rintro e w6 ⟨yv, rfl, o6, B6⟩
        have B46 := B45.trans (B6.mono B45.size)
        obtain ⟨xa, xc, rfl, x1, x2⟩ := (Rd.of_own o5).shape
        obtain ⟨ya, yc, rfl, y1, y2⟩ := (Rd.of_own o6).shape
        have hne : (((N : Int) + (k : Int)) != ((N : Int) + (k : Int))) = false := by simp
        go_wp2_with fail
        refine (members_any _ (N + k) H HL4.out need _ ((hr4.new B5).new B6) (by omega)).mono ?_
        rintro e w7 ⟨mv, rfl, ⟨m7, _⟩, B7⟩
        have B47 := B46.trans (B7.mono B46.size)
        go_wp2_with fail
        refine (refmembers_any _ (N + k) H HL4.out need _ (((hr4.new B5).new B6).new B7) (by omega)).mono ?_
        rintro e w8 ⟨rv8, rfl, o8, B8⟩
        have B48 := B47.trans (B8.mono B47.size)
        go_wp2_with fail
        refine (numbers_eq _ _ _ (memTo H need (N + k)) rfl _ (m7.new B8) (Rd.of_own o8)).mono ?_
        rintro e w9 ⟨rfl, j9, rfl⟩
        have B49 : Below w.heap.size w (w8.drewN j9) := Below.drewN' B48 j9
        have rx := ((((Rd.of_own o5).new B6).new B7).new B8).drewN j9
        have ry := (((Rd.of_own o6).new B7).new B8).drewN j9
        have hlx : (restN H qs need).length = N + k := by rw [restN, List.length_map]; exact HL4.out
        generalize restN H qs need = X at rx ry hlx
        have Hlx := Lib.hid hlx
        clear hlx
        generalize w8.drewN j9 = W at rx ry B49
        go_wp2_with fail
        go_loopw [17] (fun i wx => ∃ j : Nat, j ≤ N + k ∧ i = .int .i64 j ∧ ∃ d, wx = W.drewN d) (fun i _ => N + k - (intOf i).toNat)
        case atStart => exact ⟨0, Nat.zero_le _, rfl, 0, rfl⟩
        case round =>
          obtain ⟨j, hj, rfl, d, rfl⟩ := hrel
          by_cases hjl : j < N + k
          · obtain ⟨xb, xo, rfl⟩ := rx.addr (by omega)
            obtain ⟨yb, yo, rfl⟩ := ry.addr (by omega)
            have cx := rx.bool Hlx.out hjl
            have cy := ry.bool Hlx.out hjl
            have hjI : (j : Int) < (N : Int) + (k : Int) := by omega
            have hxx : (X[j]?.getD false != X[j]?.getD false) = false := by simp
            go_wp2
            go_quiet (fail)
            go_wp2
            go_roundw
            case rel => exact ⟨j + 1, by omega, by go_num, _, rfl⟩
            case measure => simp [intOf]; omega
          · obtain rfl : j = N + k := by omega
            go_wp2
            go_ret
            exact ⟨rfl, Below.drewN' B49 d⟩
end Go.Proofs.Ytafljpfephomoaa
