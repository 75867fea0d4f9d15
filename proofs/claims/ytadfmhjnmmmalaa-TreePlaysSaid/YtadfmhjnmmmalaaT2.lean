/- Trees in plain Lean: what the operations do to an arena of nodes. -/
import Derived.Test.YtadfmhjnmmmalaaT1
namespace Go.Proofs.Ytadfmhjnmmmalaa
def setUp (v : Int) (x : Nd) : Nd := { x with up := v }
def setBox (b : Bx) (x : Nd) : Nd := { x with b := b }
def swapN (old now : Int) (x : Nd) : Nd := if x.left = old then { x with left := now } else { x with right := now }
/-- Numbers in use, numbers that are free, of n. -/
def Book (X fr : List Nat) (n : Nat) : Prop := (X ++ fr).Nodup ∧ (∀ i ∈ X ++ fr, i < n) ∧ n = (X ++ fr).length
theorem Book.perm {X Y fr : List Nat} {n : Nat} (h : Book X fr n) (hp : X.Perm Y) : Book Y fr n := by
  have h2 := hp.append_right fr
  exact ⟨h2.nodup_iff.1 h.1, fun i hi => h.2.1 i (h2.mem_iff.2 hi), h.2.2.trans h2.length_eq⟩
/-- A node is laid at a free number, or behind all. -/
def LaidN (ns : List Nd) (fr : List Nat) (nd : Nd) (j : Nat) (ms : List Nd) (gr : List Nat) : Prop :=
  (fr = gr ++ [j] ∧ ms = ns.set j nd) ∨ (fr = [] ∧ gr = [] ∧ j = ns.length ∧ ms = ns ++ [nd])
theorem LaidN.book {ns ms : List Nd} {fr gr X : List Nat} {nd : Nd} {j : Nat} (h : LaidN ns fr nd j ms gr) (hb : Book X fr ns.length) :
    Book (j :: X) gr ms.length ∧ j ∉ X ∧ ms[j]? = some nd ∧ ∀ i ∈ X, ms[i]? = ns[i]? := by
  obtain ⟨h1, h2, h3⟩ := hb
  rcases h with ⟨rfl, rfl⟩ | ⟨rfl, rfl, rfl, rfl⟩
  · have hp : (X ++ (gr ++ [j])).Perm ((j :: X) ++ gr) := by
      rw [← List.append_assoc]
      exact List.perm_append_comm
    have hj : j < ns.length := h2 j (by simp)
    have hX : j ∉ X := by
      intro hX
      have := (List.nodup_append.1 h1).2.2 j hX j (by simp)
      exact this rfl
    refine ⟨⟨hp.nodup_iff.1 h1, fun i hi => by rw [List.length_set]; exact h2 i (hp.mem_iff.2 hi), by rw [List.length_set, h3]; exact hp.length_eq⟩, hX, by rw [List.getElem?_set_self hj], fun i hi => ?_⟩
    rw [List.getElem?_set_ne (by rintro rfl; exact hX hi)]
  · simp only [List.append_nil] at h1 h2 h3
    have hX : ns.length ∉ X := fun hX => by have := h2 _ hX; omega
    refine ⟨⟨by simpa using ⟨hX, h1⟩, fun i hi => ?_, by simp [h3]⟩, hX, by simp, fun i hi => ?_⟩
    · simp only [List.append_nil, List.mem_cons] at hi
      rw [List.length_append, List.length_singleton]
      rcases hi with rfl | hi
      · omega
      · have := h2 i hi; omega
    · rw [List.getElem?_append_left (h2 i hi)]
theorem Book.free {X fr : List Nat} {n i : Nat} (h : Book (i :: X) fr n) : Book X (fr ++ [i]) n := by
  have hp : ((i :: X) ++ fr).Perm (X ++ (fr ++ [i])) := by
    rw [← List.append_assoc]
    exact List.perm_append_comm (l₁ := [i]) (l₂ := X ++ fr)
  exact ⟨hp.nodup_iff.1 h.1, fun j hj => h.2.1 j (hp.mem_iff.2 hj), h.2.2.trans hp.length_eq⟩
theorem mod_self {ns : List Nd} {i : Nat} {x : Nd} (f : Nd → Nd) (h : ns[i]? = some x) : (ns.modify i f)[i]? = some (f x) := by rw [List.getElem?_modify_eq, h]; rfl
theorem mod_other {ns : List Nd} {i j : Nat} (f : Nd → Nd) (h : j ≠ i) : (ns.modify i f)[j]? = ns[j]? := List.getElem?_modify_ne f _ (fun e => h e.symm)
theorem nodup_stick {X Y : List Nat} (h : (X ++ Y).Nodup) {i : Nat} (hx : i ∈ X) : i ∉ Y := fun hy => (List.nodup_append.1 h).2.2 i hx i hy rfl
/-- Another node is the one above. -/
theorem Hold.setUp {ns : List Nd} {t : T} {up : Int} (v : Int) (h : Hold ns up t) (hn : t.idxs.Nodup) : Hold (ns.modify t.idx (setUp v)) v t := by
  cases t with
  | leaf i hh b =>
    simp only [Hold, T.idx] at *
    exact mod_self _ h
  | node i b l r =>
    obtain ⟨⟨hh, h1⟩, h2, h3⟩ := h
    simp only [T.idxs, List.nodup_cons, List.mem_append] at hn
    simp only [T.idx]
    exact ⟨⟨hh, mod_self _ h1⟩, h2.keep (fun j hj => mod_other _ (by rintro rfl; exact hn.1 (.inl hj))), h3.keep (fun j hj => mod_other _ (by rintro rfl; exact hn.1 (.inr hj)))⟩
/-- Another one hangs where one hung. -/
theorem HoldC.swap {ns : List Nd} {f : Fr} {c : List Fr} {k : Nat} (now : Nat) (h : HoldC ns k (f :: c)) (hk : k ≠ f.sib.idx) (hn : (idxsC (f :: c)).Nodup) : HoldC (ns.modify f.i (swapN k now)) now (f :: c) := by
  obtain ⟨⟨hh, h1⟩, h2, h3⟩ := h
  simp only [idxsC, List.nodup_cons, List.mem_append] at hn
  refine ⟨⟨hh, ?_⟩, h2.keep (fun j hj => mod_other _ (by rintro rfl; exact hn.1 (.inl hj))), h3.keep (fun j hj => mod_other _ (by rintro rfl; exact hn.1 (.inr hj)))⟩
  rw [mod_self _ h1]
  unfold swapN
  cases f.s
  · have : ¬ ((f.sib.idx : Int) = (k : Int)) := by omega
    simp [this]
  · simp
/-- A step of refit. -/
theorem refit_step {ns : List Nd} {f : Fr} {c : List Fr} {t : T} (b : Bx) (h : Hold ns (upOf (f :: c)) t) (hc : HoldC ns t.idx (f :: c)) (hn : (t.idxs ++ idxsC (f :: c)).Nodup) :
    Hold (ns.modify f.i (setBox b)) (upOf c) (stick f b t) ∧ HoldC (ns.modify f.i (setBox b)) (stick f b t).idx c := by
  obtain ⟨⟨hh, h1⟩, h2, h3⟩ := hc
  have hn1 := List.nodup_append.1 hn
  have hn2 := hn1.2.1
  simp only [idxsC, List.nodup_cons, List.mem_append] at hn2
  have e1 : ∀ j ∈ t.idxs, j ≠ f.i := fun j hj => hn1.2.2 j hj f.i (by simp [idxsC])
  refine ⟨hold_stick.2 ⟨⟨hh, ?_⟩, h.keep (fun j hj => mod_other _ (e1 j hj)), h2.keep (fun j hj => mod_other _ (by rintro rfl; exact hn2.1 (.inl hj)))⟩, ?_⟩
  · rw [mod_self _ h1]; rfl
  · rw [stick_idx]
    exact h3.keep (fun j hj => mod_other _ (by rintro rfl; exact hn2.1 (.inr hj)))
/-- What a tree's arena is: its numbers in use and free. -/
def St (ns : List Nd) (fr : List Nat) (root : Int) : Option T → Prop
  | none => Book [] fr ns.length ∧ root = -1
  | some t => Hold ns (-1) t ∧ Book t.idxs fr ns.length ∧ Fit t ∧ root = t.idx
/-- In the midst of things: a context, a tree in its hole; boxes above the hole may not fit. -/
def Mid (ns : List Nd) (fr : List Nat) (root : Int) (c : List Fr) (t : T) : Prop :=
  Hold ns (upOf c) t ∧ HoldC ns t.idx c ∧ Book (t.idxs ++ idxsC c) fr ns.length ∧ Fit t ∧ FitC c ∧ root = rootOf c t.idx
theorem St.mid {ns : List Nd} {fr : List Nat} {root : Int} {c : List Fr} {t : T} (h : St ns fr root (some (plug c t))) : Mid ns fr root c t := by
  obtain ⟨h1, h2, h3, h4⟩ := h
  obtain ⟨a, b⟩ := (hold_plug c t).1 h1
  obtain ⟨d, e⟩ := fit_plug c t h3
  exact ⟨a, b, h2.perm (plug_idxs c t), d, e, by rw [h4, plug_idx]⟩
theorem Mid.done {ns : List Nd} {fr : List Nat} {root : Int} {t : T} (h : Mid ns fr root [] t) : St ns fr root (some t) := by
  obtain ⟨h1, h2, h3, h4, h5, h6⟩ := h
  simp only [idxsC, List.append_nil] at h3
  exact ⟨h1, h3, h4, h6⟩
theorem Mid.step {ns : List Nd} {fr : List Nat} {root : Int} {f : Fr} {c : List Fr} {t : T} (h : Mid ns fr root (f :: c) t) :
    Mid (ns.modify f.i (setBox (if f.s then joinB t.box f.sib.box else joinB f.sib.box t.box))) fr root c (stick f (if f.s then joinB t.box f.sib.box else joinB f.sib.box t.box) t) := by
  obtain ⟨h1, h2, h3, h4, h5, h6⟩ := h
  obtain ⟨a, b⟩ := refit_step (if f.s then joinB t.box f.sib.box else joinB f.sib.box t.box) h1 h2 (List.nodup_append.1 h3.1).1
  refine ⟨a, b, ?_, stick_fit h4 h5.1, h5.2, by rw [h6, stick_idx]; rfl⟩
  rw [List.length_modify]
  refine h3.perm ?_
  exact (perm_mid _ _ _ _ (stick_idxs f _ t)).symm
/-- Beside a leaf another one is hung: 'k' is the node of both. -/
theorem Mid.hang {ns ms : List Nd} {fr gr : List Nat} {root : Int} {c : List Fr} {i j k : Nat} {h0 h1 : Int} {b0 b1 : Bx} {hb : Bx} {hh : Int} (a1 : Hold ns (upOf c) (.leaf i h0 b0)) (a2 : HoldC ns i c) (a5 : FitC c) (a6 : root = rootOf c i) (hj : j ∉ i :: idxsC c) (hnj : ns[j]? = some ⟨b1, -1, -1, -1, h1⟩) (hbook : Book (j :: i :: idxsC c) fr ns.length)
    (hl : LaidN ns fr ⟨hb, upOf c, i, j, hh⟩ k ms gr) (hcov0 : Cov b0 hb) (hcov1 : Cov b1 hb) :
    ∃ qs root', (match c with | [] => qs = (ms.modify i (setUp k)).modify j (setUp k) ∧ root' = (k : Int) | f :: _ => qs = ((ms.modify i (setUp k)).modify j (setUp k)).modify f.i (swapN i k) ∧ root' = root) ∧ Mid qs gr root' c (.node k hb (.leaf i h0 b0) (.leaf j h1 b1)) := by
  have a3 := (List.nodup_append.1 hbook.1).1
  simp only [List.nodup_cons] at a3
  obtain ⟨p1, p2, p3, p4⟩ := hl.book hbook
  have hk1 : k ≠ i := by rintro rfl; exact p2 (by simp)
  have hk2 : k ≠ j := by rintro rfl; exact p2 (by simp)
  have hij : i ≠ j := by rintro rfl; exact hj (by simp)
  have hkc : ∀ x ∈ idxsC c, x ≠ k := by rintro x hx rfl; exact p2 (by simp [hx])
  have hjc : ∀ x ∈ idxsC c, x ≠ j := by rintro x hx rfl; exact hj (by simp [hx])
  have hic : ∀ x ∈ idxsC c, x ≠ i := by
    rintro x hx rfl
    exact a3.2.1 hx
  have hnc : (idxsC c).Nodup := a3.2.2
  simp only [Hold] at a1
  have q1 : ms[i]? = some ⟨b0, upOf c, -1, -1, h0⟩ := by rw [p4 i (by simp)]; exact a1
  have q2 : ms[j]? = some ⟨b1, -1, -1, -1, h1⟩ := by rw [p4 j (by simp)]; exact hnj
  have hc2 : HoldC ((ms.modify i (setUp k)).modify j (setUp k)) i c := a2.keep (fun x hx => by rw [mod_other _ (hjc x hx), mod_other _ (hic x hx), p4 x (by simp [hx])])
  have r1 : ((ms.modify i (setUp k)).modify j (setUp k))[k]? = some ⟨hb, upOf c, i, j, hh⟩ := by rw [mod_other _ hk2, mod_other _ hk1]; exact p3
  have r2 : ((ms.modify i (setUp k)).modify j (setUp k))[i]? = some ⟨b0, k, -1, -1, h0⟩ := by rw [mod_other _ hij, mod_self _ q1]; rfl
  have r3 : ((ms.modify i (setUp k)).modify j (setUp k))[j]? = some ⟨b1, k, -1, -1, h1⟩ := by rw [mod_self (x := ⟨b1, -1, -1, -1, h1⟩) _ (by rw [mod_other _ hij.symm]; exact q2)]; rfl
  have hperm : (k :: j :: i :: idxsC c).Perm ((T.node k hb (.leaf i h0 b0) (.leaf j h1 b1)).idxs ++ idxsC c) := by
    simp only [T.idxs, List.cons_append, List.nil_append]
    exact (List.Perm.swap i j _).cons k
  have hlen : ((ms.modify i (setUp k)).modify j (setUp k)).length = ms.length := by rw [List.length_modify, List.length_modify]
  cases c with
  | nil => exact ⟨_, _, ⟨rfl, rfl⟩, ⟨⟨hh, r1⟩, r2, r3⟩, trivial, by rw [hlen]; exact p1.perm hperm, ⟨hcov0, hcov1, trivial, trivial⟩, trivial, rfl⟩
  | cons f c =>
    have hki : i ≠ f.sib.idx := fun e => hic f.sib.idx (by simp [idxsC, T.idx_mem]) e.symm
    have hfi : ∀ x, x = k ∨ x = i ∨ x = j → x ≠ f.i := by
      rintro x h3 rfl
      rcases h3 with h3 | h3 | h3
      · exact hkc f.i (by simp [idxsC]) h3
      · exact hic f.i (by simp [idxsC]) h3
      · exact hjc f.i (by simp [idxsC]) h3
    refine ⟨_, _, ⟨rfl, rfl⟩, ⟨⟨hh, ?_⟩, ?_, ?_⟩, hc2.swap k hki hnc, by rw [List.length_modify, hlen]; exact p1.perm hperm, ⟨hcov0, hcov1, trivial, trivial⟩, a5, a6⟩
    · rw [mod_other _ (hfi k (.inl rfl))]; exact r1
    · show Hold _ _ (.leaf i h0 b0)
      simp only [Hold]
      rw [mod_other _ (hfi i (.inr (.inl rfl)))]; exact r2
    · show Hold _ _ (.leaf j h1 b1)
      simp only [Hold]
      rw [mod_other _ (hfi j (.inr (.inr rfl)))]; exact r3
/-- A leaf is felled: its sister hangs where the node of both hung. -/
theorem Mid.fell {ns : List Nd} {fr : List Nat} {root : Int} {f : Fr} {c : List Fr} {i : Nat} {h0 : Int} {b0 : Bx} (h : Mid ns fr root (f :: c) (.leaf i h0 b0)) :
    ∃ qs root', (match c with | [] => qs = ns.modify f.sib.idx (setUp (upOf c)) ∧ root' = (f.sib.idx : Int) | g :: _ => qs = (ns.modify f.sib.idx (setUp (upOf c))).modify g.i (swapN f.i f.sib.idx) ∧ root' = root) ∧ Mid qs (fr ++ [i] ++ [f.i]) root' c f.sib := by
  obtain ⟨a1, ⟨⟨hh, a0⟩, a2, a7⟩, a3, a4, a5, a6⟩ := h
  have hn := (List.nodup_append.1 a3.1).1
  simp only [T.idxs, List.singleton_append, idxsC, List.nodup_cons] at hn
  obtain ⟨n1, n2, n3⟩ := hn
  have n4 := (List.nodup_append.1 n3).1
  have n5 := (List.nodup_append.1 n3).2.1
  have hsc : ∀ x ∈ idxsC c, x ≠ f.sib.idx := fun x hx e => (List.nodup_append.1 n3).2.2 f.sib.idx f.sib.idx_mem x hx e.symm
  have hbk : Book (f.sib.idxs ++ idxsC c) (fr ++ [i] ++ [f.i]) ns.length := (a3.perm (Y := i :: f.i :: (f.sib.idxs ++ idxsC c)) (List.Perm.refl _)).free.free
  have s1 := a2.setUp (upOf c) n4
  have s2 : HoldC (ns.modify f.sib.idx (setUp (upOf c))) f.i c := a7.keep (fun x hx => mod_other _ (hsc x hx))
  cases c with
  | nil => exact ⟨_, _, ⟨rfl, rfl⟩, s1, trivial, by rw [List.length_modify]; exact hbk, a5.1, trivial, rfl⟩
  | cons g c =>
    have hgs : ∀ x ∈ f.sib.idxs, x ≠ g.i := fun x hx => (List.nodup_append.1 n3).2.2 x hx g.i (by simp [idxsC])
    have hfg : f.i ≠ g.sib.idx := by
      rintro e
      apply n2
      rw [e]
      simp [idxsC, T.idx_mem]
    exact ⟨_, _, ⟨rfl, rfl⟩, s1.keep (fun x hx => mod_other _ (hgs x hx)), s2.swap f.sib.idx hfg n5, by rw [List.length_modify, List.length_modify]; exact hbk, a5.1, a5.2, a6⟩
end Go.Proofs.Ytadfmhjnmmmalaa
