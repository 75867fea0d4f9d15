/- Snap: the tape of an empty world (printed by wip/gen/Sk.py). -/
import Derived.Test.YtlcmjpligaiadaaSj
namespace Go.Proofs.Ytlcmjpligaiadaa
open Go.RowKit
def emptyAll : List Value := [.int .i64 0, .int .i64 0, .int .i64 0, .int .i64 0, .int .i64 0, .int .i64 0, .int .i64 0, .slice none 0 0, .slice none 0 0, .slice none 0 0, .slice none 0 0, .slice none 0 0]
set_option maxRecDepth 100000 in
set_option maxHeartbeats 4000000 in
theorem tall_any (t : Nat) (v : Value) (ab : Nat) (hab : ab < t) (w : World) (hT : Tape w t v 0 []) (hA : Blk w ab 157 emptyAll) :
    Calls Try.prog 86 #[.pointer (some ⟨t, 0, none⟩), .pointer (some ⟨ab, 0, none⟩)] w (NumsT t 12 (List.replicate 12 0) w) := by
  have htw := hT.lt
  go_enter Try.func86, Try.ntmps86
  have B1 : Below w.heap.size w (w.alloc (.cells #[.pointer (some ⟨t, 0, none⟩)] 183)) := (Below.refl _ w).alloc (by simp) _
  have hb1 := Blk.newAt (w := w) (b := w.heap.size) rfl 183 [.pointer (some ⟨t, 0, none⟩)]
  have hT1 := hT.new B1
  have hA1 := hA.alloc (.cells #[.pointer (some ⟨t, 0, none⟩)] 183)
  have hK1 := Keep.of_below B1
  have hB1 := B1.mono (Nat.le_of_lt htw)
  have q1 : _ = some (Value.pointer (some ⟨t, 0, none⟩)) := hb1.cell 0
  clear hT hA
  go_wp2_with fail
  go_region_with
    ((go_at_call 94
      have hTd1 := hT1.new ((Below.refl _ _).drew)
      refine (vec_any t v 0 [] (by decide) ab 0 hab 0 0 0 _ hTd1 (hA1.cell 0) (hA1.cell 1) (hA1.cell 2)).mono ?_
      rintro e w2 ⟨rfl, v2, hT2, hBs, hKd⟩
      have hB2 := hB1.trans (((Below.refl t _).drew).trans hBs)
      have hKs := (Keep.of_below ((Below.refl _ _).drew)).trans hKd
      have hb2 := hKs _ _ _ (by decide) (by decide) hb1
      have hA2 := hKs _ _ _ (by decide) (by decide) hA1
      have hK2 := hK1.trans hKs
      have q2 : _ = some (Value.pointer (some ⟨t, 0, none⟩)) := hb2.cell 0))
  go_wp2_with fail
  go_region_with
    ((go_at_call 95
      have hTd2 := hT2.new ((Below.refl _ _).drew)
      refine (num_any t v2 3 (List.replicate 3 0) (by decide) ab 6 0 _ _ _ hTd2 (hA2.cell 6)).mono ?_
      rintro e w3 ⟨rfl, v3, hT3, hM3⟩
      have hB3 := hB2.trans (((Below.refl t _).drew).trans (hTd2.below hM3))
      have hKs := (Keep.of_below ((Below.refl _ _).drew)).trans (hTd2.keep hM3)
      have hb3 := hKs _ _ _ (by decide) (by decide) hb2
      have hA3 := hKs _ _ _ (by decide) (by decide) hA2
      have hK3 := hK2.trans hKs
      have q3 : _ = some (Value.pointer (some ⟨t, 0, none⟩)) := hb3.cell 0))
  go_wp2_with fail
  go_region_with
    ((go_at_call 94
      have hTd3 := hT3.new ((Below.refl _ _).drew)
      refine (vec_any t v3 4 (List.replicate 4 0) (by decide) ab 3 hab 0 0 0 _ hTd3 (hA3.cell 3) (hA3.cell 4) (hA3.cell 5)).mono ?_
      rintro e w4 ⟨rfl, v4, hT4, hBs, hKd⟩
      have hB4 := hB3.trans (((Below.refl t _).drew).trans hBs)
      have hKs := (Keep.of_below ((Below.refl _ _).drew)).trans hKd
      have hb4 := hKs _ _ _ (by decide) (by decide) hb3
      have hA4 := hKs _ _ _ (by decide) (by decide) hA3
      have hK4 := hK3.trans hKs
      have q4 : _ = some (Value.pointer (some ⟨t, 0, none⟩)) := hb4.cell 0))
  go_wp2_with fail
  go_region_with
    ((go_at_call 96
      have hTd4 := hT4.new ((Below.refl _ _).drew)
      refine (points_any t v4 7 (List.replicate 7 0) (by decide) ab 7 hab _ hTd4 (hA4.cell 7)).mono ?_
      rintro e w5 ⟨rfl, v5, hT5, hBs, hKd⟩
      have hB5 := hB4.trans (((Below.refl t _).drew).trans hBs)
      have hKs := (Keep.of_below ((Below.refl _ _).drew)).trans hKd
      have hb5 := hKs _ _ _ (by decide) (by decide) hb4
      have hA5 := hKs _ _ _ (by decide) (by decide) hA4
      have hK5 := hK4.trans hKs
      have q5 : _ = some (Value.pointer (some ⟨t, 0, none⟩)) := hb5.cell 0))
  go_wp2_with fail
  go_region_held3 (fun wx => wx.cell? ⟨w.heap.size, 0, none⟩ = some (.pointer (some ⟨t, 0, none⟩))) (go_keep)
    ((go_at_call 97
      have hTd5 := hT5.new ((Below.refl _ _).drew)
      refine (list97_any t v5 8 (List.replicate 8 0) (by decide) ab 8 hab _ hTd5 (hA5.cell 8) _ _).mono ?_
      rintro e w6 ⟨rfl, v6, hT6, hBs, hKd⟩
      have hB6 := hB5.trans (((Below.refl t _).drew).trans hBs)
      have hKs := (Keep.of_below ((Below.refl _ _).drew)).trans hKd
      have hb6 := hKs _ _ _ (by decide) (by decide) hb5
      have hA6 := hKs _ _ _ (by decide) (by decide) hA5
      have hK6 := hK5.trans hKs
      have q6 : _ = some (Value.pointer (some ⟨t, 0, none⟩)) := hb6.cell 0))
  go_wp2_with fail
  go_region_held3 (fun wx => wx.cell? ⟨w.heap.size, 0, none⟩ = some (.pointer (some ⟨t, 0, none⟩))) (go_keep)
    ((go_at_call 100
      have hTd6 := hT6.new ((Below.refl _ _).drew)
      refine (list100_any t v6 9 (List.replicate 9 0) (by decide) ab 9 hab _ hTd6 (hA6.cell 9) _ _).mono ?_
      rintro e w7 ⟨rfl, v7, hT7, hBs, hKd⟩
      have hB7 := hB6.trans (((Below.refl t _).drew).trans hBs)
      have hKs := (Keep.of_below ((Below.refl _ _).drew)).trans hKd
      have hb7 := hKs _ _ _ (by decide) (by decide) hb6
      have hA7 := hKs _ _ _ (by decide) (by decide) hA6
      have hK7 := hK6.trans hKs
      have q7 : _ = some (Value.pointer (some ⟨t, 0, none⟩)) := hb7.cell 0))
  go_wp2_with fail
  go_region_held3 (fun wx => wx.cell? ⟨w.heap.size, 0, none⟩ = some (.pointer (some ⟨t, 0, none⟩))) (go_keep)
    ((go_at_call 104
      have hTd7 := hT7.new ((Below.refl _ _).drew)
      refine (list104_any t v7 10 (List.replicate 10 0) (by decide) ab 10 hab _ hTd7 (hA7.cell 10) _ _).mono ?_
      rintro e w8 ⟨rfl, v8, hT8, hBs, hKd⟩
      have hB8 := hB7.trans (((Below.refl t _).drew).trans hBs)
      have hKs := (Keep.of_below ((Below.refl _ _).drew)).trans hKd
      have hb8 := hKs _ _ _ (by decide) (by decide) hb7
      have hA8 := hKs _ _ _ (by decide) (by decide) hA7
      have hK8 := hK7.trans hKs
      have q8 : _ = some (Value.pointer (some ⟨t, 0, none⟩)) := hb8.cell 0))
  go_wp2_with fail
  go_region_held3 (fun wx => wx.cell? ⟨w.heap.size, 0, none⟩ = some (.pointer (some ⟨t, 0, none⟩))) (go_keep)
    ((go_at_call 107
      have hTd8 := hT8.new ((Below.refl _ _).drew)
      refine (list107_any t v8 11 (List.replicate 11 0) (by decide) ab 11 hab _ hTd8 (hA8.cell 11) _ _).mono ?_
      rintro e w9 ⟨rfl, v9, hT9, hBs, hKd⟩
      have hB9 := hB8.trans (((Below.refl t _).drew).trans hBs)
      have hKs := (Keep.of_below ((Below.refl _ _).drew)).trans hKd
      have hb9 := hKs _ _ _ (by decide) (by decide) hb8
      have hA9 := hKs _ _ _ (by decide) (by decide) hA8
      have hK9 := hK8.trans hKs
      have q9 : _ = some (Value.pointer (some ⟨t, 0, none⟩)) := hb9.cell 0))
  go_wp2
  exact bodyPost_end (v := .tuple #[]) (by simp [results, Try.f86, go_sem]) rfl ⟨rfl, v9, hT9, hB9, hK9⟩
end Go.Proofs.Ytlcmjpligaiadaa
