/- Snap: Take. -/
import Derived.Test.YtlcmjpligaiadaaSf
namespace Go.Proofs.Ytlcmjpligaiadaa
open Go.RowKit
theorem nats_extract (s : ByteArray) (a b : Nat) : nats (s.extract a b) = ((nats s).drop a).take (b - a) := by
  unfold nats
  rw [ByteArray.data_extract, Array.toList_extract, List.extract_eq_take_drop, List.map_take, List.map_drop]
theorem nats_inj {a b : ByteArray} (h : nats a = nats b) : a = b := by
  unfold nats at h
  have : a.data.toList = b.data.toList := by
    have hi : Function.Injective UInt8.toNat := fun x y h => UInt8.toNat_inj.1 h
    exact (List.map_inj_right (fun x y h => UInt8.toNat_inj.1 h)).1 h
  apply ByteArray.ext
  exact Array.toList_inj.1 this
set_option maxRecDepth 100000 in
theorem take_short (s : ByteArray) (h : s.size < 16) (w : World) :
    Calls Try.prog 17 #[.string s] w fun e w' => e = .returned (.tuple #[.slice none 0 0, .int .i64 210]) ∧ w = w' := by
  have hI : (s.size : Int) < 16 := by omega
  go_enter Try.func17, Try.ntmps17
  go_wp2
  go_ret2
  exact ⟨rfl, rfl⟩
set_option maxRecDepth 100000 in
theorem take_bad (s : ByteArray) (l : List Int) (n : Nat) (hl : l.length = n) (hn : n ≤ 4000) (h1 : (nats s).take 8 = headN l) (h2 : s.size ≠ 16 + 8 * n) (hs : s.size ≤ maxLen) (h16 : 16 ≤ s.size) (w : World) :
    Calls Try.prog 17 #[.string s] w fun e w' => e = .returned (.tuple #[.slice none 0 0, .int .i64 210]) ∧ ∃ j, w' = w.drewN j := by
  have hI : ¬ (s.size : Int) < 16 := by omega
  have hm : s.extract 0 4 = { data := #[84, 77, 66, 49] } := by
    apply nats_inj
    rw [nats_extract, List.drop_zero, magic_strN, nats_strN (by decide)]
    have : ((nats s).take 8).take 4 = [84, 77, 66, 49] := by rw [h1]; rfl
    rw [List.take_take] at this
    exact this
  have hg : nats (s.extract 4 8) = be n 4 := by
    rw [nats_extract]
    have : ((nats s).take 8).drop 4 = be n 4 := by rw [h1]; unfold headN; rw [hl]; rfl
    rw [List.drop_take] at this
    exact this
  have Hg := Lib.hid hg
  unfold maxLen at hs
  clear h1 hl hg
  go_enter Try.func17, Try.ntmps17
  go_wp2_with fail
  refine (get58_any (s.extract 4 8) w (by rw [← nats_len, Hg.out, be_len]; decide)).mono ?_
  rintro e w1 ⟨rfl, rfl⟩
  rw [Hg.out, getN_be (by omega) (by omega)]
  have hc : IntKind.i64.wrap (n : Int) = n := IntWalk.i64_in _ (by omega)
  have h4 : decide ((4000 : Int) < (n : Int)) = false := by simp; omega
  have h6 : IntKind.i64.wrap (8 * (n : Int)) = 8 * (n : Int) := IntWalk.i64_in _ (by omega)
  have h7 : IntKind.i64.wrap (8 + 8 * (n : Int)) = 8 + 8 * (n : Int) := IntWalk.i64_in _ (by omega)
  have h5 : ((s.size : Int) - 8 != 8 + 8 * (n : Int)) = true := by simp; omega
  go_wp2_with fail
  go_quiet (fail)
  go_wp2
  go_ret2
  exact ⟨rfl, _, rfl⟩
end Go.Proofs.Ytlcmjpligaiadaa
