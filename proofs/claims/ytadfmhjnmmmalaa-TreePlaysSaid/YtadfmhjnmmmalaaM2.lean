/- Trees: a tree beside blocks of other kinds; steps of a script. -/
import Derived.Test.YtadfmhjnmmmalaaM1
namespace Go.Proofs.Ytadfmhjnmmmalaa
open Go.RowKit Go.Maps
abbrev Stp := Int × Int × Bx
def encStp (s : Stp) : List Value := .int .i64 s.1 :: .int .i64 s.2.1 :: s.2.2.cells
def stpCells (l : List Stp) : List Value := l.flatMap encStp
def GoodStp (s : Stp) : Prop := In64 s.1 ∧ In64 s.2.1 ∧ InB s.2.2
theorem stp_get {l : List Stp} {j : Nat} {x : Stp} (c : Nat) (h : l[j]? = some x) (hc : c < 8) : (stpCells l)[j * 8 + c]? = (encStp x)[c]? := by
  have h8 : ∀ y : Stp, (encStp y).length = 8 := fun _ => rfl
  exact flat_get h8 _ _ _ _ h hc
theorem Rd.stp {w : World} {b off n cap : Nat} {l : List Stp} (h : Rd w (.slice (some ⟨b, off, none⟩) n cap) n 8 (stpCells l)) {k : Nat} (hk : k < n) {x : Stp} (hx : l[k]? = some x) :
    w.cell? ⟨b, off + k * 8, none⟩ = some (.int .i64 x.1) ∧ w.cell? ⟨b, off + k * 8 + 1, none⟩ = some (.int .i64 x.2.1) ∧ w.cell? ⟨b, off + k * 8 + 2, none⟩ = some (.int .i64 x.2.2.x0) ∧ w.cell? ⟨b, off + k * 8 + 2 + 1, none⟩ = some (.int .i64 x.2.2.y0) ∧ w.cell? ⟨b, off + k * 8 + 2 + 2, none⟩ = some (.int .i64 x.2.2.z0) ∧ w.cell? ⟨b, off + k * 8 + 2 + 3, none⟩ = some (.int .i64 x.2.2.x1) ∧ w.cell? ⟨b, off + k * 8 + 2 + 4, none⟩ = some (.int .i64 x.2.2.y1) ∧ w.cell? ⟨b, off + k * 8 + 2 + 5, none⟩ = some (.int .i64 x.2.2.z1) := by
  have f : ∀ c, c < 8 → w.cell? ⟨b, off + k * 8 + c, none⟩ = (encStp x)[c]? := fun c hc => by
    have := h.at (i := k * 8 + c) (by omega)
    rw [show off + k * 8 + c = off + (k * 8 + c) by omega, this, stp_get c hx hc]
  exact ⟨f 0 (by decide), f 1 (by decide), f 2 (by decide), f 3 (by decide), f 4 (by decide), f 5 (by decide), f 6 (by decide), f 7 (by decide)⟩
/-- Blocks of kinds that are none of a tree's. -/
def Apt (ty : TypeId) : Prop := ty = 4 ∨ ty = 34
def Kept (w w' : World) : Prop := ∀ c ty vs, Apt ty → Blk w c ty vs → Blk w' c ty vs
theorem Kept.of_below {w w' : World} (h : Below w.heap.size w w') : Kept w w' := fun _ _ _ _ hb => hb.below h hb.lt
theorem Tree.no_apt {w : World} {t : Nat} {S : Nat → Prop} {room : Nat} {L : List Lf} (h : Tree w t S room L) {b : Nat} {ty : TypeId} {vs : List Value} (ha : Apt ty) (hb : Blk w b ty vs) : ¬ S b := by
  obtain ⟨vn, vf, mb, ns, fr, root, D, o, rfl, hR, _⟩ := h
  rintro (rfl | h1 | h1 | rfl)
  · exact blk_type_ne hb hR.1 (by rcases ha with rfl | rfl <;> decide) rfl
  · exact own_ne hR.2.1 hb (by rcases ha with rfl | rfl <;> decide) h1
  · exact own_ne hR.2.2.1 hb (by rcases ha with rfl | rfl <;> decide) h1
  · obtain ⟨es, clock, hh, _⟩ := hR.2.2.2
    unfold Blk at hb
    rw [hh] at hb
    cases hb
theorem put_k (B t room : Nat) (L : List Lf) (h : Int) (hh : In64 h) (b : Bx) (w : World) (hT : TreeN B w t room L) (hB : B ≤ w.heap.size) :
    Calls Try.prog 10 #[.pointer (some ⟨t, 0, none⟩), .int .i64 h, boxV b] w fun e w' => e = .returned (.int .i64 (putR room L h b).1) ∧ TreeN B w' t room (putR room L h b).2 ∧ Below B w w' ∧ Kept w w' := by
  obtain ⟨S, h1, h2⟩ := hT
  refine (put10_any t S room L h hh b w h1).mono ?_
  rintro e w' ⟨rfl, S', h3, h4⟩
  obtain ⟨a, c⟩ := h4.below h2 hB
  exact ⟨rfl, ⟨S', h3, c⟩, a, fun _ _ _ ha hb => hb.mod h4.1 (h1.no_apt ha hb)⟩
theorem move_k (B t room : Nat) (L : List Lf) (h : Int) (hh : In64 h) (b : Bx) (w : World) (hT : TreeN B w t room L) (hB : B ≤ w.heap.size) :
    Calls Try.prog 14 #[.pointer (some ⟨t, 0, none⟩), .int .i64 h, boxV b] w fun e w' => e = .returned (.tuple #[.bool (moveR L h b).1, .int .i64 (moveR L h b).2.1]) ∧ TreeN B w' t room (moveR L h b).2.2 ∧ Below B w w' ∧ Kept w w' := by
  obtain ⟨S, h1, h2⟩ := hT
  refine (move14_any t S room L h hh b w h1).mono ?_
  rintro e w' ⟨rfl, S', h3, h4⟩
  obtain ⟨a, c⟩ := h4.below h2 hB
  exact ⟨rfl, ⟨S', h3, c⟩, a, fun _ _ _ ha hb => hb.mod h4.1 (h1.no_apt ha hb)⟩
theorem drop_k (B t room : Nat) (L : List Lf) (h : Int) (hh : In64 h) (w : World) (hT : TreeN B w t room L) (hB : B ≤ w.heap.size) :
    Calls Try.prog 16 #[.pointer (some ⟨t, 0, none⟩), .int .i64 h] w fun e w' => e = .returned (.int .i64 (if hasL L h then 0 else 81)) ∧ TreeN B w' t room (delL L h) ∧ Below B w w' ∧ Kept w w' := by
  obtain ⟨S, h1, h2⟩ := hT
  refine (drop16_any t S room L h hh w h1).mono ?_
  rintro e w' ⟨rfl, S', h3, h4⟩
  obtain ⟨a, c⟩ := h4.below h2 hB
  exact ⟨rfl, ⟨S', h3, c⟩, a, fun _ _ _ ha hb => hb.mod h4.1 (h1.no_apt ha hb)⟩
theorem wide_own (B t room : Nat) (L : List Lf) (h : Int) (hh : In64 h) (w : World) (hT : TreeN B w t room L) :
    Calls Try.prog 21 #[.pointer (some ⟨t, 0, none⟩), .int .i64 h] w fun e w' => e = .returned (.tuple #[boxV ((boxOf L h).getD noB), .bool (hasL L h)]) ∧ Below w.heap.size w w' := by
  obtain ⟨S, h1, h2⟩ := hT
  exact wide21_any t S room L h hh w h1
theorem TreeN.set {B : Nat} {w : World} {t room : Nat} {L : List Lf} (h : TreeN B w t room L) {b : Nat} {ty : TypeId} {vs : List Value} (ha : Apt ty) (hb : Blk w b ty vs) (i : Nat) (v : Value) : TreeN B (w.setCell ⟨b, i, none⟩ v) t room L := by
  obtain ⟨S, h1, h2⟩ := h
  have hn := h1.no_apt ha hb
  exact ⟨S, h1.mod (M := fun j => j = b) ((Mod.refl (fun j => j = b) w).setCell (p := ⟨b, i, none⟩) (fun _ => rfl) v) (fun j hs e => hn (e ▸ hs)), h2⟩
theorem below_set {B : Nat} {a w : World} (h : Below B a w) (hB : B ≤ w.heap.size) {b : Nat} (hb : B ≤ b) (i : Nat) (v : Value) : Below B a (w.setCell ⟨b, i, none⟩ v) :=
  h.trans (((Mod.refl (fun j => j = b) w).setCell (p := ⟨b, i, none⟩) (fun _ => rfl) v).below hB (fun k hk e => by have e2 : k = b := e; omega))
theorem set_six (a b c d e f : Value) (l : List Value) (p : Nat) (v : Value) : (a :: b :: c :: d :: e :: f :: l).set (p + 6) v = a :: b :: c :: d :: e :: f :: l.set p v := rfl
theorem box_cons (y : Bx) (bs : List Bx) : boxCells (y :: bs) = .int .i64 y.x0 :: .int .i64 y.y0 :: .int .i64 y.z0 :: .int .i64 y.x1 :: .int .i64 y.y1 :: .int .i64 y.z1 :: boxCells bs := rfl
/-- A box is laid over another one. -/
theorem box_sets : ∀ (bx : List Bx) (k : Nat) (b : Bx), k < bx.length → ((((((boxCells bx).set (k * 6) (.int .i64 b.x0)).set (k * 6 + 1) (.int .i64 b.y0)).set (k * 6 + 2) (.int .i64 b.z0)).set (k * 6 + 3) (.int .i64 b.x1)).set (k * 6 + 4) (.int .i64 b.y1)).set (k * 6 + 5) (.int .i64 b.z1) = boxCells (bx.set k b)
  | [], _, _, h => by cases h
  | y :: bs, 0, b, _ => rfl
  | y :: bs, k + 1, b, h => by
    have ih := box_sets bs k b (by simpa using h)
    rw [box_cons, show (k + 1) * 6 = k * 6 + 6 by omega, show k * 6 + 6 + 1 = k * 6 + 1 + 6 by omega, show k * 6 + 6 + 2 = k * 6 + 2 + 6 by omega, show k * 6 + 6 + 3 = k * 6 + 3 + 6 by omega, show k * 6 + 6 + 4 = k * 6 + 4 + 6 by omega, show k * 6 + 6 + 5 = k * 6 + 5 + 6 by omega, set_six, set_six, set_six, set_six, set_six, set_six, ih]
    rfl
theorem made_flat {α : Type} (f : α → List Value) {sz : Nat} (hf : ∀ y, (f y).length = sz) (hsz : 0 < sz) (x : α) (n : Nat) : (madeCells (f x).toArray (n * sz)).toList = (List.replicate n x).flatMap f := by
  apply List.ext_getElem?
  intro i
  by_cases hi : i < n * sz
  · have hr : i % sz < sz := Nat.mod_lt _ hsz
    have hd : i / sz < n := Nat.div_lt_of_lt_mul (by rw [Nat.mul_comm]; exact hi)
    have hi2 : i = i / sz * sz + i % sz := by have := Nat.div_add_mod i sz; rw [Nat.mul_comm]; omega
    have h1 : ((List.replicate n x).flatMap f)[i]? = (f x)[i % sz]? := by
      conv => lhs; rw [hi2]
      exact flat_get hf _ _ _ x (by simp [hd]) hr
    rw [h1]
    have hlt : i % sz < (f x).length := by rw [hf]; exact hr
    simp only [madeCells, Array.toList_map, Array.toList_range, List.getElem?_map, List.size_toArray, hf]
    rw [List.getElem?_range hi]
    simp [hlt]
  · rw [List.getElem?_eq_none (by simp [size_madeCells]; omega), List.getElem?_eq_none (by rw [flat_len hf]; simp; omega)]
theorem box_made : (madeCells (Value.agg #[.int .i64 0, .int .i64 0, .int .i64 0, .int .i64 0, .int .i64 0, .int .i64 0]).cells (20 * 6)).toList = boxCells (List.replicate 20 noB) :=
  made_flat Bx.cells (fun _ => rfl) (by decide) noB 20
theorem info4 : (Try.prog.info? 4).map (fun i => (i.zero, i.size, i.bytes)) = some (some (.bool false), 1, 1) := by kernel_rfl
theorem info34 : (Try.prog.info? 34).map (fun i => (i.zero, i.size, i.bytes)) = some (some (.agg #[.int .i64 0, .int .i64 0, .int .i64 0, .int .i64 0, .int .i64 0, .int .i64 0]), 6, 48) := by kernel_rfl
theorem Blk.box {w : World} {b : Nat} {bs : List Bx} (h : Blk w b 34 (boxCells bs)) {k : Nat} {x : Bx} (hx : bs[k]? = some x) :
    w.cell? ⟨b, k * 6, none⟩ = some (.int .i64 x.x0) ∧ w.cell? ⟨b, k * 6 + 1, none⟩ = some (.int .i64 x.y0) ∧ w.cell? ⟨b, k * 6 + 2, none⟩ = some (.int .i64 x.z0) ∧ w.cell? ⟨b, k * 6 + 3, none⟩ = some (.int .i64 x.x1) ∧ w.cell? ⟨b, k * 6 + 4, none⟩ = some (.int .i64 x.y1) ∧ w.cell? ⟨b, k * 6 + 5, none⟩ = some (.int .i64 x.z1) := by
  have f : ∀ c, c < 6 → w.cell? ⟨b, k * 6 + c, none⟩ = x.cells[c]? := fun c hc => by rw [h.cell, box_get c hx hc]
  exact ⟨f 0 (by decide), f 1 (by decide), f 2 (by decide), f 3 (by decide), f 4 (by decide), f 5 (by decide)⟩
theorem Blk.flag {w : World} {b : Nat} {th : List Bool} (h : Blk w b 4 (bools th)) {k : Nat} {x : Bool} (hx : th[k]? = some x) : w.cell? ⟨b, k, none⟩ = some (.bool x) := by
  rw [h.cell, List.getElem?_map, hx]
  rfl
end Go.Proofs.Ytadfmhjnmmmalaa
