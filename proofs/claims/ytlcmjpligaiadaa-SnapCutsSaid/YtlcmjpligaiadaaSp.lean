/- Snap: Save of an empty world, and the laws' awake. -/
import Derived.Test.YtlcmjpligaiadaaSo
namespace Go.Proofs.Ytlcmjpligaiadaa
open Go.RowKit
theorem layNs_lt (l : List Int) : ∀ x ∈ layNs l, x < 256 := by
  intro x hx
  unfold layNs at hx
  rcases List.mem_append.1 hx with h | h
  · exact bodyN_lt l x h
  · exact be_lt _ _ x h
theorem nats_lay (l : List Int) : nats (strN (layNs l)) = layNs l := nats_strN (layNs_lt l)
theorem lay_size (l : List Int) : (strN (layNs l)).size = 16 + 8 * l.length := by rw [← nats_len, nats_lay, layNs_len]
set_option maxRecDepth 100000 in
theorem save_any (o : Nat) (w : World) (h : WorldZ w o) :
    Calls Try.prog 55 #[.pointer (some ⟨o, 0, none⟩)] w (LayP (List.replicate 12 0) w) := by
  go_enter Try.func55, Try.ntmps55
  go_wp2_with fail
  refine (ints_any o w h).mono ?_
  rintro e w1 ⟨v, rfl, hr, B1⟩
  go_wp2_with fail
  refine (lay_any v 12 _ (by decide) (by decide) w1 hr).mono ?_
  rintro e w2 ⟨rfl, B2⟩
  go_wp2
  go_ret
  exact ⟨rfl, B1.trans (B2.mono B1.size)⟩
theorem append_x (s : ByteArray) : nats (s ++ ({ data := #[120] } : ByteArray)) = nats s ++ [120] := by
  unfold nats
  rw [ByteArray.data_append, Array.toList_append, List.map_append]
  rfl
set_option maxRecDepth 100000 in
set_option maxHeartbeats 2000000 in
theorem awake11_any (w : World) :
    Calls Try.prog 11 #[] w fun e w' => e = .returned (.bool true) ∧ Below w.heap.size w w' := by
  go_enter Try.func11, Try.ntmps11
  have b0 := Blk.newAt (w := w) (b := w.heap.size) rfl 3 [.int .i64 (-1)]
  have B0 : Below w.heap.size w (w.alloc (.cells #[.int .i64 (-1)] 3)) := (Below.refl _ w).alloc (Nat.le_refl _) _
  go_wp2_with fail
  refine (lay_any _ 1 [-1] rfl (by decide) _ (blk_rd b0 rfl (by decide))).mono ?_
  rintro e w1 ⟨rfl, B1⟩
  have BW1 := B0.trans (B1.mono B0.size)
  have hs := nats_lay [-1]
  have hz := lay_size [-1]
  generalize strN (layNs [-1]) = s at hs hz ⊢
  clear b0 B0 B1
  go_wp2_with fail
  refine (take_good [-1] 1 rfl (by decide) (by decide) s hs w1).mono ?_
  rintro e w2 ⟨v2, rfl, hr2, _, B2⟩
  have BW2 := BW1.trans (B2.mono BW1.size)
  go_wp2_with fail
  have hz2 : (s ++ ({ data := #[120] } : ByteArray)).size = 25 := by rw [← nats_len, append_x, List.length_append, nats_len, hz]; rfl
  refine (take_bad (s ++ { data := #[120] }) [-1] 1 rfl (by decide) (by rw [append_x, List.take_append_of_le_length (by rw [nats_len, hz]; decide), hs, lay_take8]) (by rw [hz2]; decide) (by rw [hz2]; decide) (by rw [hz2]; decide) w2).mono ?_
  rintro e w3 ⟨rfl, j3, rfl⟩
  have BW3 := Below.drewN' BW2 j3
  have hr3 := hr2.drewN j3
  go_wp2_with fail
  refine (newW_any _).mono ?_
  rintro e w4 ⟨o, rfl, hW, B4⟩
  have BW4 := BW3.trans (B4.mono BW3.size)
  have hr4 := hr3.new B4
  have hz3 : s.size = 24 := hz
  have h8 : (((s[8]'(by omega)).toNat : Int) == 255) = true := by
    have h := nats_get (s := s) (k := 8) (by omega)
    rw [hs, show (layNs [-1])[8]? = some 255 from by decide] at h
    have h2 : (s[8]'(by omega)).toNat = 255 := (Option.some.inj h).symm
    rw [h2]; rfl
  have hm : s.extract 0 4 = { data := #[84, 77, 66, 49] } := by
    apply nats_inj
    rw [nats_extract, List.drop_zero, magic_strN, nats_strN (by decide), hs]
    have : ((layNs [-1]).take 8).take 4 = [84, 77, 66, 49] := by rw [lay_take8]; rfl
    rw [List.take_take] at this
    exact this
  have hI : ((s.size : Int) == 24) = true := by rw [hz3]; rfl
  go_wp2_with fail
  refine (numbers_any v2 _ 1 1 [-1] [-1] rfl rfl _ (hr4.alloc _) (blk_rd (Blk.newAt (w := w4) (b := w4.heap.size) rfl 3 [.int .i64 (-1)]) rfl (by decide))).mono ?_
  rintro e w5 ⟨rfl, j5, hw5⟩
  have B5 : Below w4.heap.size w4 w5 := by rw [hw5]; exact Below.drewN' ((Below.refl _ w4).alloc (Nat.le_refl _) _) j5
  clear hw5
  have BW5 := BW4.trans (B5.mono BW4.size)
  obtain ⟨pb, sb, pj, sj, q, hw, hpb, hpj⟩ := hW
  have hW5 : WorldZ w5 o := ⟨pb, sb, pj, sj, q, hw.below B5 hw.lt, hpb.new B5, hpj.new B5⟩
  have hdec : decide (([-1] : List Int) = [-1]) = true := by decide
  rw [hdec]
  go_wp2_with fail
  refine (save_any o w5 hW5).mono ?_
  rintro e w6 ⟨rfl, B6⟩
  have BW6 := BW5.trans (B6.mono BW5.size)
  have hz6 : (strN (layNs (List.replicate 12 0))).size = 112 := lay_size _
  generalize strN (layNs (List.replicate 12 0)) = s6 at hz6 ⊢
  have hI6 : decide ((100 : Int) < (s6.size : Int)) = true := by rw [hz6]; rfl
  go_wp2_with fail
  refine (sum14_any ⟨#[]⟩ w6 (by decide)).mono ?_
  rintro e w7 ⟨rfl, rfl⟩
  have hs0 : ((sumN (nats ⟨#[]⟩) : Nat) : Int) = 14695981039346656037 := sumN_nil
  rw [hs0]
  go_wp2_with fail
  go_ret
  exact ⟨rfl, BW6⟩
end Go.Proofs.Ytlcmjpligaiadaa
