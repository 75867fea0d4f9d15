/- Trees: TreeLazy, walked. -/
import Derived.Test.YtadfmhjnmmmalaaL2
namespace Go.Proofs.Ytadfmhjnmmmalaa
open Go.RowKit Go.Maps
def boxCells (bs : List Bx) : List Value := bs.flatMap Bx.cells
abbrev P3 := Int × Int × Int
def ptCells (ps : List P3) : List Value := ps.flatMap fun p => [.int .i64 p.1, .int .i64 p.2.1, .int .i64 p.2.2]
theorem box_len : ∀ bs : List Bx, (boxCells bs).length = bs.length * 6
  | [] => rfl
  | x :: bs => by
    have := box_len bs
    unfold boxCells at *
    rw [List.flatMap_cons, List.length_append, this]
    show 6 + _ = _
    rw [List.length_cons]
    omega
theorem box_get : ∀ {bs : List Bx} {j : Nat} {x : Bx} (c : Nat), bs[j]? = some x → c < 6 → (boxCells bs)[j * 6 + c]? = x.cells[c]?
  | [], _, _, _, h, _ => by cases h
  | y :: bs, 0, x, c, h, hc => by
    simp only [List.getElem?_cons_zero, Option.some.injEq] at h
    subst h
    unfold boxCells
    rw [List.flatMap_cons, Nat.zero_mul, Nat.zero_add, List.getElem?_append_left (by exact hc)]
  | y :: bs, j + 1, x, c, h, hc => by
    simp only [List.getElem?_cons_succ] at h
    have ih := box_get c h hc
    unfold boxCells at *
    rw [List.flatMap_cons, List.getElem?_append_right (by show 6 ≤ _; omega), ← ih]
    congr 1
    show (j + 1) * 6 + c - 6 = _
    omega
theorem pt_get : ∀ {ps : List P3} {j : Nat} {x : P3} (c : Nat), ps[j]? = some x → c < 3 → (ptCells ps)[j * 3 + c]? = [Value.int .i64 x.1, .int .i64 x.2.1, .int .i64 x.2.2][c]?
  | [], _, _, _, h, _ => by cases h
  | y :: ps, 0, x, c, h, hc => by
    simp only [List.getElem?_cons_zero, Option.some.injEq] at h
    subst h
    unfold ptCells
    rw [List.flatMap_cons, Nat.zero_mul, Nat.zero_add, List.getElem?_append_left (by exact hc)]
  | y :: ps, j + 1, x, c, h, hc => by
    simp only [List.getElem?_cons_succ] at h
    have ih := pt_get c h hc
    unfold ptCells at *
    rw [List.flatMap_cons, List.getElem?_append_right (by show 3 ≤ _; omega), ← ih]
    congr 1
    show (j + 1) * 3 + c - 3 = _
    omega
theorem Rd.box {w : World} {b off n cap : Nat} {bs : List Bx} (h : Rd w (.slice (some ⟨b, off, none⟩) n cap) n 6 (boxCells bs)) {k : Nat} (hk : k < n) {x : Bx} (hx : bs[k]? = some x) :
    w.cell? ⟨b, off + k * 6, none⟩ = some (.int .i64 x.x0) ∧ w.cell? ⟨b, off + k * 6 + 1, none⟩ = some (.int .i64 x.y0) ∧ w.cell? ⟨b, off + k * 6 + 2, none⟩ = some (.int .i64 x.z0) ∧ w.cell? ⟨b, off + k * 6 + 3, none⟩ = some (.int .i64 x.x1) ∧ w.cell? ⟨b, off + k * 6 + 4, none⟩ = some (.int .i64 x.y1) ∧ w.cell? ⟨b, off + k * 6 + 5, none⟩ = some (.int .i64 x.z1) := by
  have f : ∀ c, c < 6 → w.cell? ⟨b, off + k * 6 + c, none⟩ = x.cells[c]? := fun c hc => by
    have := h.at (i := k * 6 + c) (by omega)
    rw [show off + k * 6 + c = off + (k * 6 + c) by omega, this, box_get c hx hc]
  exact ⟨f 0 (by decide), f 1 (by decide), f 2 (by decide), f 3 (by decide), f 4 (by decide), f 5 (by decide)⟩
theorem Rd.pt {w : World} {b off n cap : Nat} {ps : List P3} (h : Rd w (.slice (some ⟨b, off, none⟩) n cap) n 3 (ptCells ps)) {k : Nat} (hk : k < n) {x : P3} (hx : ps[k]? = some x) :
    w.cell? ⟨b, off + k * 3, none⟩ = some (.int .i64 x.1) ∧ w.cell? ⟨b, off + k * 3 + 1, none⟩ = some (.int .i64 x.2.1) ∧ w.cell? ⟨b, off + k * 3 + 2, none⟩ = some (.int .i64 x.2.2) := by
  have f : ∀ c, c < 3 → w.cell? ⟨b, off + k * 3 + c, none⟩ = [Value.int .i64 x.1, .int .i64 x.2.1, .int .i64 x.2.2][c]? := fun c hc => by
    have := h.at (i := k * 3 + c) (by omega)
    rw [show off + k * 3 + c = off + (k * 3 + c) by omega, this, pt_get c hx hc]
  exact ⟨f 0 (by decide), f 1 (by decide), f 2 (by decide)⟩
/-- The first k boxes as they are laid. -/
def wideTo (bs : List Bx) (k : Nat) : List Bx := (bs.take k).map fun b => grownB (boxN b)
theorem wide_len {bs : List Bx} {k : Nat} (h : k ≤ bs.length) : (wideTo bs k).length = k := by
  unfold wideTo
  rw [List.length_map, List.length_take]
  omega
theorem wide_succ {bs : List Bx} {k : Nat} {x : Bx} (h : bs[k]? = some x) : wideTo bs (k + 1) = wideTo bs k ++ [grownB (boxN x)] := by
  unfold wideTo
  rw [List.take_add_one, h]
  simp
theorem put_wide {room : Nat} {bs : List Bx} {k : Nat} {x : Bx} (hx : bs[k]? = some x) (hk : k < room) : putR room (laidL 0 (wideTo bs k)) ((k : Int) + 1) (boxN x) = (0, laidL 0 (wideTo bs (k + 1))) := by
  have hl := wide_len (Nat.le_of_lt (List.getElem?_eq_some_iff.1 hx).1)
  have := put_laid (room := room) (bs := wideTo bs k) (by omega) x
  rw [hl] at this
  rw [wide_succ hx]
  exact this
theorem wide_get {bs : List Bx} {k n : Nat} {x : Bx} (h : bs[k]? = some x) (hk : k < n) : (wideTo bs n)[k]? = some (grownB (boxN x)) := by
  unfold wideTo
  rw [List.getElem?_map, List.getElem?_take_of_lt hk, h]
  rfl
theorem wide_mem {bs : List Bx} {k n : Nat} {x : Bx} (h : bs[k]? = some x) (hk : k < n) : ((k : Int) + 1, grownB (boxN x)) ∈ laidL 0 (wideTo bs n) := by
  have := laid_get 0 (wideTo bs n) k _ (wide_get h hk)
  rw [Nat.zero_add] at this
  exact this
/-- Where a read slice lies, if it holds anything: not among what turns. -/
def Off (S : Nat → Prop) (w : World) (v : Value) (n : Nat) : Prop := n ≠ 0 → ∀ b, v.ownBlock = some b → b < w.heap.size ∧ ¬ S b
theorem Rd.off {w : World} {v : Value} {n sz : Nat} {xs : List Value} {S : Nat → Prop} (h : Rd w v n sz xs) (hs : ∀ b, v.ownBlock = some b → ¬ S b) : Off S w v n := fun hn b hb => by
  obtain ⟨a, c, rfl, _, _⟩ := h.shape
  obtain ⟨b', off, rfl⟩ := h.addr hn
  have := h.block_lt hn
  simp only [Value.ownBlock, Option.some.injEq] at hb
  subst hb
  exact ⟨this, hs _ rfl⟩
theorem Off.new {S : Nat → Prop} {w w' : World} {v : Value} {n : Nat} (h : Off S w v n) (hB : w.heap.size ≤ w'.heap.size) : Off S w' v n := fun hn b hb => ⟨Nat.lt_of_lt_of_le (h hn b hb).1 hB, (h hn b hb).2⟩
theorem Rd.turn {w w' : World} {v : Value} {n sz : Nat} {xs : List Value} {S S' : Nat → Prop} (h : Rd w v n sz xs) (ho : Off S w v n) (hT : Turn S S' w w') : Rd w' v n sz xs ∧ Off S' w' v n := by
  by_cases hn : n = 0
  · obtain ⟨ao, cap, e, h1, h2, h3, -⟩ := h
    exact ⟨⟨ao, cap, e, h1, h2, h3, fun h => absurd hn h⟩, fun h => absurd hn h⟩
  · refine ⟨h.mod hT.1 (fun b hb => (ho hn b hb).2), fun _ b hb => ⟨Nat.lt_of_lt_of_le (ho hn b hb).1 hT.1.size, fun hs => ?_⟩⟩
    rcases hT.2 b hs with h1 | h1
    · exact (ho hn b hb).2 h1
    · have := (ho hn b hb).1
      omega
set_option maxRecDepth 100000 in
set_option maxHeartbeats 4000000 in
theorem lazy3_any (lv bv : Value) (n m : Nat) (bs : List Bx) (ps : List P3) (w : World) (hbl : bs.length = n) (hpl : ps.length = m) (hb : Rd w lv n 6 (boxCells bs)) (hq : Rd w bv m 3 (ptCells ps)) (hin : ∀ b ∈ bs, InB b) (hpin : ∀ p ∈ ps, In64 p.1 ∧ In64 p.2.1 ∧ In64 p.2.2) :
    Calls Try.prog 3 #[lv, bv] w fun e w' => e = .returned (.bool true) ∧ Below w.heap.size w w' := by
  obtain ⟨la, lc, rfl, l1, l2⟩ := hb.shape
  obtain ⟨ba, bc, rfl, b1, b2⟩ := hq.shape
  obtain ⟨N, hN⟩ : ∃ N : Nat, N = min n 30 := ⟨_, rfl⟩
  have hN1 : N ≤ n := by omega
  have hN2 : N ≤ 30 := by omega
  have hmin : min (n : Int) 30 = (N : Int) := by omega
  have hlN : (N : Int) ≤ (lc : Int) := by omega
  go_enter Try.func3, Try.ntmps3
  go_wp2_with fail
  refine (awake8_any w).mono ?_
  rintro e w1 ⟨rfl, hB1⟩
  have hs1 := hB1.size
  go_wp2_with fail
  refine (new_own 64 (by decide) (by decide) w1).mono ?_
  rintro e w2 ⟨t, rfl, hT2, hB2⟩
  have hB : Below w.heap.size w w2 := hB1.trans (hB2.mono hs1)
  have hTn : TreeN w.heap.size w2 t 64 (laidL 0 (wideTo bs 0)) := by
    obtain ⟨S, h1, h2⟩ := hT2
    exact ⟨S, h1, fun j hj => Nat.le_trans hs1 (h2 j hj)⟩
  have HN := Lib.hid hN
  have Hin := Lib.hid hin
  have Hpin := Lib.hid hpin
  have Hbl := Lib.hid hbl
  have Hpl := Lib.hid hpl
  have Hhb := Lib.hid hb
  have Hhq := Lib.hid hq
  clear hN hin hpin hbl hpl hB1 hs1 hT2 hB2 hb hq
  go_wp2_with fail
  go_loopw [8] (fun i wr => ∃ k : Nat, k ≤ N ∧ i = .int .i64 (k : Int) ∧ TreeN w.heap.size wr t 64 (laidL 0 (wideTo bs k)) ∧ Below w.heap.size w wr) (fun i _ => N - (intOf i).toNat)
  case atStart => exact ⟨0, Nat.zero_le _, rfl, hTn, hB⟩
  case round =>
    obtain ⟨k, hk, rfl, hT, hBr⟩ := hrel
    by_cases hkN : k < N
    · obtain ⟨x, hx⟩ : ∃ x, bs[k]? = some x := ⟨_, List.getElem?_eq_getElem (by rw [Hbl.out]; omega)⟩
      obtain ⟨b, off, rfl⟩ := Hhb.out.addr (by omega)
      obtain ⟨q0, q1, q2, q3, q4, q5⟩ := (Hhb.out.new hBr).box (by omega) hx
      have hkI : (k : Int) < (N : Int) := by omega
      have hxin := Hin.out x (List.mem_of_getElem? hx)
      have Hx := Lib.hid hx
      have Hxi := Lib.hid hxin
      have hsr := hBr.size
      clear hx hxin
      go_wp2_with fail
      refine (box11_any x Hxi.out wr).mono ?_
      rintro e w4 ⟨rfl, hB4⟩
      have hT4 := hT.new hB4
      have hs4 := hB4.size
      have hBB := hBr.trans (hB4.mono hsr)
      clear q0 q1 q2 q3 q4 q5 hT hBr hB4
      go_wp2_with fail
      refine (put_own w.heap.size t 64 _ ((k : Int) + 1) (by unfold In64; omega) (boxN x) w4 hT4 (by omega)).mono ?_
      rintro e w5 ⟨rfl, hT5, hB5⟩
      rw [put_wide Hx.out (by omega)] at hT5 ⊢
      replace hBB := hBB.trans hB5
      clear hT4 hB5
      go_wp2
      go_roundw
      case rel => exact ⟨k + 1, by omega, by go_num, hT5, hBB⟩
      case measure => simp [intOf]; omega
    · obtain rfl : k = N := by omega
      obtain ⟨L, hL⟩ : ∃ L, L = laidL 0 (wideTo bs k) := ⟨_, rfl⟩
      rw [← hL] at hT
      have HL := Lib.hid hL
      clear hL
      obtain ⟨S, hTS, hSB⟩ := hT
      have hsr := hBr.size
      go_wp2_with fail
      refine (pairs12_any t S 64 L wr hTS).mono ?_
      rintro e w4 ⟨v, rfl, hv, hB4⟩
      have hT4 := hTS.below hB4
      obtain ⟨P, hP⟩ : ∃ P, P = (pairsL L).length := ⟨_, rfl⟩
      rw [← hP] at hv
      obtain ⟨va, vc, rfl, v1, v2⟩ := hv.1.shape
      have hvS : Off S w4 (.slice va P vc) P := hv.1.off fun b hb hs => by
        have h1 := hv.2 b hb
        have h2 := hTS.lt b hs
        omega
      have hvR := hv.1
      have HP := Lib.hid hP
      have hBr4 := hBr.trans (hB4.mono hsr)
      clear hP hv hTS hBr hB4 hsr
      go_wp2_with fail
      go_loopw [10] (fun i wr => ∃ k' : Nat, k' ≤ k ∧ i = .int .i64 (k' : Int) ∧ ∃ S, Tree wr t S 64 L ∧ Hid (∀ j, S j → w.heap.size ≤ j) ∧ Rd wr (.slice va P vc) P 2 (pairCells (pairsL L)) ∧ Off S wr (.slice va P vc) P ∧ Below w.heap.size w wr) (fun i _ => k - (intOf i).toNat)
      case atStart => exact ⟨0, Nat.zero_le _, rfl, S, hT4, Lib.hid hSB, hvR, hvS, hBr4⟩
      case round =>
        obtain ⟨k', hk', rfl, S', hT5, hSB5, hv5, hvS5, hB5⟩ := hrel
        by_cases hboth : k' < k ∧ k' < m
        · obtain ⟨hk1, hk2⟩ := hboth
          obtain ⟨x, hx⟩ : ∃ x, bs[k']? = some x := ⟨_, List.getElem?_eq_getElem (by rw [Hbl.out]; omega)⟩
          obtain ⟨p, hp⟩ : ∃ p, ps[k']? = some p := ⟨_, List.getElem?_eq_getElem (by rw [Hpl.out]; omega)⟩
          obtain ⟨b, off, rfl⟩ := Hhb.out.addr (by omega)
          obtain ⟨pb, poff, rfl⟩ := Hhq.out.addr (by omega)
          obtain ⟨q0, q1, q2, q3, q4, q5⟩ := (Hhb.out.new hB5).box (by omega) hx
          have hxin := Hin.out x (List.mem_of_getElem? hx)
          obtain ⟨g1, g3, g5⟩ := Hpin.out p (List.mem_of_getElem? hp)
          have hkI : (k' : Int) < (k : Int) := by omega
          have hkI2 : (k' : Int) < (m : Int) := by omega
          have Hx := Lib.hid hx
          have Hp := Lib.hid hp
          have Hxi := Lib.hid hxin
          have hs5 := hB5.size
          clear hx hp hxin
          go_wp2_with fail
          refine (box11_any x Hxi.out wr).mono ?_
          rintro e w6 ⟨rfl, hB6⟩
          have hbk : Blk (w6.alloc (.cells (boxN x).cells.toArray 34)) w6.heap.size 34 (boxN x).cells := Blk.newAt rfl 34 (boxN x).cells
          have hB7 : Below wr.heap.size wr (w6.alloc (.cells (boxN x).cells.toArray 34)) := hB6.alloc hB6.size _
          obtain ⟨w7, hw7⟩ : ∃ w7, w6.alloc (.cells (boxN x).cells.toArray 34) = w7 := ⟨_, rfl⟩
          rw [hw7] at hbk hB7
          obtain ⟨e0, e1, e2⟩ := (Hhq.out.new (hB5.trans (hB7.mono hs5))).pt (by omega) Hp.out
          have d0 : _ = some (Value.int .i64 (boxN x).x0) := hbk.cell 0
          have d1 : _ = some (Value.int .i64 (boxN x).y0) := hbk.cell 1
          have d2 : _ = some (Value.int .i64 (boxN x).z0) := hbk.cell 2
          have d3 : _ = some (Value.int .i64 (boxN x).x1) := hbk.cell 3
          have d4 : _ = some (Value.int .i64 (boxN x).y1) := hbk.cell 4
          have d5 : _ = some (Value.int .i64 (boxN x).z1) := hbk.cell 5
          obtain ⟨⟨⟨r0, r1⟩, ⟨r2, r3⟩, r4, r5⟩, ⟨r6, r7⟩, ⟨r8, r9⟩, r10, r11⟩ := boxN_in x
          have t0 := pickN_range (c := p.1) (n := 129) (by omega)
          have t1 := pickN_range (c := p.2.1) (n := 129) (by omega)
          have t2 := pickN_range (c := p.2.2) (n := 129) (by omega)
          obtain ⟨t00, t01⟩ := t0
          obtain ⟨t10, t11⟩ := t1
          obtain ⟨t20, t21⟩ := t2
          have hT7 := hT5.below hB7
          have hv7 := hv5.new hB7
          have hBB := hB5.trans (hB7.mono hs5)
          have hs7 := hBB.size
          clear q0 q1 q2 q3 q4 q5 hT5 hB5 hB7 hv5 hbk
          go_upto_region 16 with (fail)
          change Code.wp _ _ _ _ (w6.alloc (.cells (boxN x).cells.toArray 34))
          rw [hw7]
          have Hw7 := Lib.hid hw7
          have HB6 := Lib.hid hB6
          clear hw7
          go_wp2_with fail
          refine (pick13_any p.1 129 w7 g1.1 g1.2 (by omega) (by omega)).mono ?_
          rintro e w8 ⟨rfl, rfl⟩
          go_wp2_with fail
          refine (pick13_any p.2.1 129 w7 g3.1 g3.2 (by omega) (by omega)).mono ?_
          rintro e w8 ⟨rfl, rfl⟩
          go_wp2_with fail
          refine (pick13_any p.2.2 129 w7 g5.1 g5.2 (by omega) (by omega)).mono ?_
          rintro e w8 ⟨rfl, rfl⟩
          go_wp2_with fail
          have hvo := hvS5.new (w' := w7) (by rw [← Hw7.out]; have := HB6.out.size; simp; omega)
          refine (move14_any t S' 64 L ((k' : Int) + 1) (by unfold In64; omega) (movedB (boxN x) (pickN p.1 129 - 64) (pickN p.2.1 129 - 64) (pickN p.2.2 129 - 64)) w7 hT7).mono ?_
          rintro e w9 ⟨rfl, S9, hT9, hTu⟩
          have hmv : moveR L ((k' : Int) + 1) (movedB (boxN x) (pickN p.1 129 - 64) (pickN p.2.1 129 - 64) (pickN p.2.2 129 - 64)) = (false, 0, L) := by
            rw [HL.out]
            exact move_lazy (laid_rises _ _) (wide_mem Hx.out hk1) (by omega) (by omega) (by omega)
          rw [hmv] at hT9 ⊢
          obtain ⟨hv9, hvo9⟩ := hv7.turn hvo hTu
          obtain ⟨hB9, hS9⟩ := hTu.below hSB5.out hs7
          replace hBB := hBB.trans hB9
          clear hT7 hv7 hvo hTu hB9 hmv d0 d1 d2 d3 d4 d5 e0 e1 e2 r0 r1 r2 r3 r4 r5 r6 r7 r8 r9 r10 r11 t00 t01 t10 t11 t20 t21
          go_wp2
          go_roundw
          case rel => exact ⟨k' + 1, by omega, by go_num, S9, hT9, Lib.hid hS9, hv9, hvo9, hBB⟩
          case measure => simp [intOf]; omega
        · have hfin : ∀ w', Below wr.heap.size wr w' → Below w.heap.size w w' := fun w' h => hB5.trans (h.mono hB5.size)
          have hgo : (∃ hk3 : k' < k, ¬ k' < m) ∨ ¬ k' < k := by
            by_cases h : k' < k
            · exact .inl ⟨h, fun h2 => hboth ⟨h, h2⟩⟩
            · exact .inr h
          clear hboth
          rcases hgo with ⟨hk3, hm3⟩ | hk3
          all_goals
            go_wp2_with fail
            refine (pairs12_any t S' 64 L wr hT5).mono ?_
            rintro e w6 ⟨v', rfl, hv6, hB6⟩
            rw [← HP.out] at hv6
            have hv7 := hv5.new hB6
            obtain ⟨ua, uc, rfl, u1, u2⟩ := hv6.1.shape
            go_wp2_with fail
            refine (pairs15_any _ _ P (pairsL L) HP.out.symm _ hv6.1 hv7).mono ?_
            rintro e w7 ⟨rfl, j, rfl⟩
            go_wp2
            go_ret
            exact ⟨rfl, Below.drewN' (hfin _ hB6) j⟩
end Go.Proofs.Ytadfmhjnmmmalaa
