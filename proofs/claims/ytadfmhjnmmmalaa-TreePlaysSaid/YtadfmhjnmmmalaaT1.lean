/- Trees of boxes in plain Lean: boxes, trees with their nodes' numbers, contexts, what an arena of nodes holds. -/
import Derived.Test.YtadfmhjnmmmalaaB1
namespace Go.Proofs.Ytadfmhjnmmmalaa
/-- A box. -/
structure Bx where
  x0 : Int
  y0 : Int
  z0 : Int
  x1 : Int
  y1 : Int
  z1 : Int
instance : DecidableEq Bx := fun a b => decidable_of_iff (a.x0 = b.x0 ∧ a.y0 = b.y0 ∧ a.z0 = b.z0 ∧ a.x1 = b.x1 ∧ a.y1 = b.y1 ∧ a.z1 = b.z1) (by cases a; cases b; simp)
def imin (a b : Int) : Int := if b < a then b else a
def imax (a b : Int) : Int := if a < b then b else a
theorem imin_eq (a b : Int) : imin a b = min a b := by unfold imin; split <;> omega
theorem imax_eq (a b : Int) : imax a b = max a b := by unfold imax; split <;> omega
def joinB (a b : Bx) : Bx := ⟨imin a.x0 b.x0, imin a.y0 b.y0, imin a.z0 b.z0, imax a.x1 b.x1, imax a.y1 b.y1, imax a.z1 b.z1⟩
def meetB (a b : Bx) : Bool := decide (a.x0 ≤ b.x1) && decide (b.x0 ≤ a.x1) && decide (a.y0 ≤ b.y1) && decide (b.y0 ≤ a.y1) && decide (a.z0 ≤ b.z1) && decide (b.z0 ≤ a.z1)
def grownB (b : Bx) : Bx := ⟨b.x0 - 64, b.y0 - 64, b.z0 - 64, b.x1 + 64, b.y1 + 64, b.z1 + 64⟩
def mayB (b : Bx) : Bool := decide (b.x0 ≤ b.x1) && decide (b.y0 ≤ b.y1) && decide (b.z0 ≤ b.z1) && decide (-1073741824 ≤ b.x0 ∧ -1073741824 ≤ b.y0 ∧ -1073741824 ≤ b.z0) && decide (b.x1 ≤ 1073741824 ∧ b.y1 ≤ 1073741824 ∧ b.z1 ≤ 1073741824)
theorem meet_comm (a b : Bx) : meetB a b = meetB b a := by
  unfold meetB
  rw [Bool.eq_iff_iff]
  simp only [Bool.and_eq_true, decide_eq_true_eq]
  constructor <;> (rintro ⟨⟨⟨⟨⟨h1, h2⟩, h3⟩, h4⟩, h5⟩, h6⟩; exact ⟨⟨⟨⟨⟨h2, h1⟩, h4⟩, h3⟩, h6⟩, h5⟩)
/-- Whatever meets the first meets the second. -/
def Cov (a b : Bx) : Prop := ∀ c, meetB a c = true → meetB b c = true
theorem cov_refl (a : Bx) : Cov a a := fun _ h => h
theorem cov_left (a b : Bx) : Cov a (joinB a b) := by
  intro c h
  unfold meetB joinB at *
  simp only [Bool.and_eq_true, decide_eq_true_eq, imin_eq, imax_eq] at *
  omega
theorem cov_right (a b : Bx) : Cov b (joinB a b) := by
  intro c h
  unfold meetB joinB at *
  simp only [Bool.and_eq_true, decide_eq_true_eq, imin_eq, imax_eq] at *
  omega
/-- Trees: a node's number, its box. -/
inductive T where
  | leaf (i : Nat) (h : Int) (b : Bx)
  | node (i : Nat) (b : Bx) (l r : T)
def T.idx : T → Nat
  | .leaf i _ _ => i
  | .node i _ _ _ => i
def T.box : T → Bx
  | .leaf _ _ b => b
  | .node _ b _ _ => b
def T.idxs : T → List Nat
  | .leaf i _ _ => [i]
  | .node i _ l r => i :: (l.idxs ++ r.idxs)
/-- The leaves: handle, number, box. -/
def T.leaves : T → List (Int × Nat × Bx)
  | .leaf i h b => [(h, i, b)]
  | .node _ _ l r => l.leaves ++ r.leaves
def T.nodes : T → Nat
  | .leaf _ _ _ => 1
  | .node _ _ l r => 1 + l.nodes + r.nodes
theorem T.idx_mem : ∀ t : T, t.idx ∈ t.idxs
  | .leaf _ _ _ => by simp [T.idx, T.idxs]
  | .node _ _ _ _ => by simp [T.idx, T.idxs]
theorem T.idxs_len : ∀ t : T, t.idxs.length + 1 = 2 * t.leaves.length
  | .leaf _ _ _ => rfl
  | .node _ _ l r => by
    have := l.idxs_len
    have := r.idxs_len
    simp only [T.idxs, T.leaves, List.length_cons, List.length_append]
    omega
theorem T.leaf_idx : ∀ (t : T) (x : Int × Nat × Bx), x ∈ t.leaves → x.2.1 ∈ t.idxs
  | .leaf i h b, x, hx => by
    simp only [T.leaves, List.mem_singleton] at hx
    subst hx
    simp [T.idxs]
  | .node _ _ l r, x, hx => by
    simp only [T.leaves, List.mem_append] at hx
    simp only [T.idxs, List.mem_cons, List.mem_append]
    rcases hx with hx | hx
    · exact .inr (.inl (l.leaf_idx x hx))
    · exact .inr (.inr (r.leaf_idx x hx))
def Fit : T → Prop
  | .leaf _ _ _ => True
  | .node _ b l r => Cov l.box b ∧ Cov r.box b ∧ Fit l ∧ Fit r
/-- A node of the arena. -/
structure Nd where
  b : Bx
  up : Int
  left : Int
  right : Int
  h : Int
def Hold (ns : List Nd) : Int → T → Prop
  | up, .leaf i h b => ns[i]? = some ⟨b, up, -1, -1, h⟩
  | up, .node i b l r => (∃ hh, ns[i]? = some ⟨b, up, l.idx, r.idx, hh⟩) ∧ Hold ns i l ∧ Hold ns i r
/-- A frame of a context: the node, its box, whether the hole is at its left, the other one. -/
structure Fr where
  i : Nat
  b : Bx
  s : Bool
  sib : T
def stick (f : Fr) (b : Bx) (t : T) : T := if f.s then .node f.i b t f.sib else .node f.i b f.sib t
def plug : List Fr → T → T
  | [], t => t
  | f :: c, t => plug c (stick f f.b t)
def upOf : List Fr → Int
  | [] => -1
  | f :: _ => f.i
def rootOf : List Fr → Nat → Nat
  | [], k => k
  | f :: c, _ => rootOf c f.i
def idxsC : List Fr → List Nat
  | [] => []
  | f :: c => f.i :: (f.sib.idxs ++ idxsC c)
def leavesC : List Fr → List (Int × Nat × Bx)
  | [] => []
  | f :: c => f.sib.leaves ++ leavesC c
def FitC : List Fr → Prop
  | [] => True
  | f :: c => Fit f.sib ∧ FitC c
def HoldC (ns : List Nd) : Nat → List Fr → Prop
  | _, [] => True
  | k, f :: c => (∃ hh, ns[f.i]? = some ⟨f.b, upOf c, if f.s then k else f.sib.idx, if f.s then f.sib.idx else k, hh⟩) ∧ Hold ns f.i f.sib ∧ HoldC ns f.i c
/-- Boxes made to fit, upward. -/
def refitT : List Fr → T → T
  | [], t => t
  | f :: c, t => refitT c (stick f (if f.s then joinB t.box f.sib.box else joinB f.sib.box t.box) t)
theorem stick_idx (f : Fr) (b : Bx) (t : T) : (stick f b t).idx = f.i := by unfold stick; split <;> rfl
theorem stick_box (f : Fr) (b : Bx) (t : T) : (stick f b t).box = b := by unfold stick; split <;> rfl
theorem stick_idxs (f : Fr) (b : Bx) (t : T) : (stick f b t).idxs.Perm (t.idxs ++ f.i :: f.sib.idxs) := by
  unfold stick
  split
  · simp only [T.idxs]
    exact List.perm_middle.symm
  · simp only [T.idxs]
    exact (List.perm_append_comm.cons f.i).trans List.perm_middle.symm
theorem stick_leaves (f : Fr) (b : Bx) (t : T) : (stick f b t).leaves.Perm (t.leaves ++ f.sib.leaves) := by
  unfold stick
  split
  · exact List.Perm.refl _
  · exact List.perm_append_comm
theorem refit_idx : ∀ (c : List Fr) (t : T), (refitT c t).idx = rootOf c t.idx
  | [], _ => rfl
  | f :: c, t => by rw [refitT, refit_idx, stick_idx]; rfl
theorem plug_idx : ∀ (c : List Fr) (t : T), (plug c t).idx = rootOf c t.idx
  | [], _ => rfl
  | f :: c, t => by rw [plug, plug_idx, stick_idx]; rfl
theorem perm_mid {α : Type} (A B C D : List α) (h : A.Perm (B ++ C)) : (A ++ D).Perm (B ++ (C ++ D)) := by rw [← List.append_assoc]; exact h.append_right D
theorem refit_idxs : ∀ (c : List Fr) (t : T), (refitT c t).idxs.Perm (t.idxs ++ idxsC c)
  | [], t => by simp [refitT, idxsC]
  | f :: c, t => (refit_idxs c _).trans (perm_mid _ _ _ _ (stick_idxs f _ t))
theorem refit_leaves : ∀ (c : List Fr) (t : T), (refitT c t).leaves.Perm (t.leaves ++ leavesC c)
  | [], t => by simp [refitT, leavesC]
  | f :: c, t => (refit_leaves c _).trans (perm_mid _ _ _ _ (stick_leaves f _ t))
theorem plug_idxs : ∀ (c : List Fr) (t : T), (plug c t).idxs.Perm (t.idxs ++ idxsC c)
  | [], t => by simp [plug, idxsC]
  | f :: c, t => (plug_idxs c _).trans (perm_mid _ _ _ _ (stick_idxs f _ t))
theorem plug_leaves : ∀ (c : List Fr) (t : T), (plug c t).leaves.Perm (t.leaves ++ leavesC c)
  | [], t => by simp [plug, leavesC]
  | f :: c, t => (plug_leaves c _).trans (perm_mid _ _ _ _ (stick_leaves f _ t))
theorem stick_fit {f : Fr} {t : T} (ht : Fit t) (hf : Fit f.sib) : Fit (stick f (if f.s then joinB t.box f.sib.box else joinB f.sib.box t.box) t) := by
  unfold stick
  split <;> rename_i h
  · exact ⟨cov_left _ _, cov_right _ _, ht, hf⟩
  · exact ⟨cov_left _ _, cov_right _ _, hf, ht⟩
theorem refit_fit : ∀ (c : List Fr) (t : T), Fit t → FitC c → Fit (refitT c t)
  | [], _, h, _ => h
  | _ :: c, _, h, hc => refit_fit c _ (stick_fit h hc.1) hc.2
theorem fit_plug : ∀ (c : List Fr) (t : T), Fit (plug c t) → Fit t ∧ FitC c
  | [], t, h => ⟨h, trivial⟩
  | f :: c, t, h => by
    obtain ⟨h1, h2⟩ := fit_plug c _ h
    unfold stick at h1
    split at h1
    · exact ⟨h1.2.2.1, h1.2.2.2, h2⟩
    · exact ⟨h1.2.2.2, h1.2.2.1, h2⟩
theorem hold_stick {ns : List Nd} {f : Fr} {b : Bx} {up : Int} {t : T} : Hold ns up (stick f b t) ↔ (∃ hh, ns[f.i]? = some ⟨b, up, if f.s then t.idx else f.sib.idx, if f.s then f.sib.idx else t.idx, hh⟩) ∧ Hold ns f.i t ∧ Hold ns f.i f.sib := by
  unfold stick
  split <;> rename_i h
  · simp only [Hold]
  · simp only [Hold]
    constructor
    · rintro ⟨h1, h2, h3⟩; exact ⟨h1, h3, h2⟩
    · rintro ⟨h1, h2, h3⟩; exact ⟨h1, h3, h2⟩
theorem hold_plug {ns : List Nd} : ∀ (c : List Fr) (t : T), Hold ns (-1) (plug c t) ↔ Hold ns (upOf c) t ∧ HoldC ns t.idx c
  | [], t => by simp [plug, upOf, HoldC]
  | f :: c, t => by
    rw [plug, hold_plug c, hold_stick, stick_idx]
    simp only [upOf, HoldC]
    constructor
    · rintro ⟨⟨h1, h2, h3⟩, h4⟩; exact ⟨h2, h1, h3, h4⟩
    · rintro ⟨h2, h1, h3, h4⟩; exact ⟨⟨h1, h2, h3⟩, h4⟩
theorem Hold.keep {ns ms : List Nd} : ∀ {t : T} {up : Int}, Hold ns up t → (∀ i ∈ t.idxs, ms[i]? = ns[i]?) → Hold ms up t
  | .leaf i h b, up, h1, h2 => by
    simp only [Hold] at *
    rw [h2 i (by simp [T.idxs])]; exact h1
  | .node i b l r, up, h1, h2 => by
    obtain ⟨⟨hh, h1⟩, h3, h4⟩ := h1
    refine ⟨⟨hh, by rw [h2 i (by simp [T.idxs])]; exact h1⟩, Hold.keep h3 (fun j hj => h2 j ?_), Hold.keep h4 (fun j hj => h2 j ?_)⟩
    · simp [T.idxs, hj]
    · simp [T.idxs, hj]
theorem HoldC.keep {ns ms : List Nd} : ∀ {c : List Fr} {k : Nat}, HoldC ns k c → (∀ i ∈ idxsC c, ms[i]? = ns[i]?) → HoldC ms k c
  | [], _, _, _ => trivial
  | f :: c, k, ⟨⟨hh, h1⟩, h2, h3⟩, h4 => ⟨⟨hh, by rw [h4 f.i (by simp [idxsC])]; exact h1⟩, h2.keep (fun j hj => h4 j (by simp [idxsC, hj])), h3.keep (fun j hj => h4 j (by simp [idxsC, hj]))⟩
theorem Hold.lt {ns : List Nd} : ∀ {t : T} {up : Int}, Hold ns up t → ∀ i ∈ t.idxs, i < ns.length
  | .leaf i h b, up, h1, j, hj => by
    simp only [T.idxs, List.mem_singleton] at hj
    subst hj
    exact (List.getElem?_eq_some_iff.1 h1).1
  | .node i b l r, up, h1, j, hj => by
    obtain ⟨⟨hh, h1⟩, h3, h4⟩ := h1
    simp only [T.idxs, List.mem_cons, List.mem_append] at hj
    rcases hj with rfl | hj | hj
    · exact (List.getElem?_eq_some_iff.1 h1).1
    · exact Hold.lt h3 j hj
    · exact Hold.lt h4 j hj
theorem HoldC.lt {ns : List Nd} : ∀ {c : List Fr} {k : Nat}, HoldC ns k c → ∀ i ∈ idxsC c, i < ns.length
  | [], _, _, j, hj => by cases hj
  | f :: c, k, ⟨⟨hh, h1⟩, h2, h3⟩, j, hj => by
    simp only [idxsC, List.mem_cons, List.mem_append] at hj
    rcases hj with rfl | hj | hj
    · exact (List.getElem?_eq_some_iff.1 h1).1
    · exact h2.lt j hj
    · exact HoldC.lt h3 j hj
/-- A leaf of a tree is the hole of a context. -/
theorem T.find : ∀ (t : T) (x : Int × Nat × Bx), x ∈ t.leaves → ∀ d : List Fr, ∃ c, plug d t = plug c (.leaf x.2.1 x.1 x.2.2)
  | .leaf i h b, x, hx, d => by
    simp only [T.leaves, List.mem_singleton] at hx
    subst hx
    exact ⟨d, rfl⟩
  | .node i b l r, x, hx, d => by
    simp only [T.leaves, List.mem_append] at hx
    rcases hx with hx | hx
    · exact l.find x hx (⟨i, b, true, r⟩ :: d)
    · exact r.find x hx (⟨i, b, false, l⟩ :: d)
end Go.Proofs.Ytadfmhjnmmmalaa
