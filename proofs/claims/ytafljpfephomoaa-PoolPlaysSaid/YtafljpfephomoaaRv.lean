/- A law for regions that draw their order, in whatever fence: an invariant of what is done so far. No program here. -/
import Derived.RegionIn
import Derived.BigRegionIn
namespace Go.Proofs.Ytafljpfephomoaa
open Go
def upd (s : Nat → Bool) (i : Nat) : Nat → Bool := fun j => cond (Nat.beq j i) true (s j)
theorem upd_self (s : Nat → Bool) (i : Nat) : upd s i i = true := by simp [upd]
def Done (l : Array Bool) : Nat → Bool := fun j => l.getD j false
theorem done_set {l : Array Bool} {i : Nat} (hi : i < l.size) : Done (l.setIfInBounds i true) = upd (Done l) i := by
  funext j
  simp only [Done, upd]
  rcases Nat.decEq j i with h | h
  · have : Nat.beq j i = false := by
      cases hb : Nat.beq j i with
      | false => rfl
      | true => exact absurd (Nat.eq_of_beq_eq_true hb) h
    rw [this, cond_false]
    simp only [Array.getD_eq_getD_getElem?]
    rw [Array.getElem?_setIfInBounds_ne (Ne.symm h)]
  · subst h
    simp [hi]
section
variable {F : Fence} {n : Nat} {P : Program} {ops : Array Oper} {Q : Exit → Act → World → Prop} {md : Region.Mode}
def Forward (md : Region.Mode) (ops : List Oper) : Bool :=
  (List.range ops.length).all fun i => match ops[i]? with
    | some o => o.after.all fun e => !Region.binds md e || Nat.blt e.on i
    | none => true
def DepsIn (md : Region.Mode) (o : Oper) (s : Nat → Bool) : Bool := o.after.toList.all fun e => !Region.binds md e || s e.on
theorem all_listed (hT : Forward md ops.toList = true) {l : Array Bool} (hl : l.size = ops.size) (h : Region.ready md ops l = []) : ∀ j, j < ops.size → l.getD j true = true := by
  intro j
  induction j using Nat.strongRecOn with
  | ind j ih =>
    intro hj
    cases hc : l.getD j true with
    | true => rfl
    | false =>
      exfalso
      have hm : j ∈ Region.ready md ops l := by
        refine mem_ready.2 ⟨hc, ops[j], by simp [hj], ?_⟩
        intro e he hb
        have hlt : e.on < j := by
          have := List.all_eq_true.1 hT j (by simpa using hj)
          simp only [Array.getElem?_toList, Array.getElem?_eq_getElem hj, Array.all_eq_true_iff_forall_mem] at this
          have := this e he
          simpa [hb] using this
        have := ih e.on hlt (by omega)
        have h2 : e.on < l.size := by omega
        simp only [Array.getD_eq_getD_getElem?, Array.getElem?_eq_getElem h2, Option.getD_some] at this ⊢
        exact this
      rw [h] at hm
      cases hm
theorem count_set_lt {l : Array Bool} {i : Nat} (h : l.getD i true = false) : (l.setIfInBounds i true).toList.count false < l.toList.count false := by
  have hi : i < l.size := by
    rcases Nat.lt_or_ge i l.size with h' | h'
    · exact h'
    · simp [Array.getElem?_eq_none h'] at h
  have hv : l[i] = false := by simpa [hi] using h
  have hm : false ∈ l.toList := by
    have := Array.getElem_mem hi
    rw [hv] at this
    simpa using this
  have hp := List.count_pos_iff.2 hm
  rw [Array.toList_setIfInBounds, List.count_set (by simpa using hi)]
  have hv' : l.toList[i]'(by simpa using hi) = false := by simpa using hv
  rw [hv']
  simp only [beq_self_eq_true, if_true]
  have : (true == false) = false := rfl
  rw [this]
  simp only [Bool.false_eq_true, if_false]
  omega
theorem wpAnyIn_inv (Inv : (Nat → Bool) → Act → World → Prop) (hT : Forward md ops.toList = true)
    (step : ∀ (s : Nat → Bool) (a : Act) (w : World) (i : Nat) (o : Oper), Inv s a w → ops[i]? = some o → s i = false → DepsIn md o s = true → wpOpIn F n P ops Q i (Inv (upd s i)) a w)
    (fin : ∀ (s : Nat → Bool) (a : Act) (w : World), (∀ i, i < ops.size → s i = true) → Inv s a w → Q .normal a w) :
    ∀ (fuel : Nat) (l : Array Bool) (a : Act) (w : World), l.size = ops.size → l.toList.count false ≤ fuel → Inv (Done l) a w → wpAnyIn F n P md ops Q fuel l a w := by
  have hfin : ∀ (l : Array Bool) (a : Act) (w : World), l.size = ops.size → Inv (Done l) a w → Region.ready md ops l = [] → Q .normal a w := by
    intro l a w hl hI hr
    refine fin (Done l) a w (fun i hi => ?_) hI
    have := all_listed hT hl hr i hi
    have h2 : i < l.size := by omega
    simp only [Array.getD_eq_getD_getElem?, Array.getElem?_eq_getElem h2, Option.getD_some, Done] at this ⊢
    exact this
  intro fuel
  induction fuel with
  | zero =>
    intro l a w hl hc hI
    have hr : Region.ready md ops l = [] := by
      rw [List.eq_nil_iff_forall_not_mem]
      intro i hi
      have := count_set_lt (mem_ready.1 hi).1
      omega
    exact ⟨hr, hfin l a w hl hI hr⟩
  | succ fuel ih =>
    intro l a w hl hc hI
    refine ⟨fun hr => hfin l a w hl hI hr, fun i hi => ?_⟩
    obtain ⟨h1, o, ho, h2⟩ := mem_ready.1 hi
    have hi' : i < l.size := by
      rcases Nat.lt_or_ge i l.size with h' | h'
      · exact h'
      · simp [Array.getElem?_eq_none h'] at h1
    have hlt := count_set_lt h1
    have hs : Done l i = false := by
      simp only [Array.getD_eq_getD_getElem?, Array.getElem?_eq_getElem hi', Option.getD_some, Done] at h1 ⊢
      exact h1
    have hd : DepsIn md o (Done l) = true := by
      simp only [DepsIn, List.all_eq_true, Bool.or_eq_true, Bool.not_eq_true']
      intro e he
      cases hb : Region.binds md e with
      | false => exact .inl rfl
      | true => exact .inr (h2 e (by simpa using he) hb)
    refine wpOpIn_mono (fun a' w' h => ?_) (step (Done l) a w i o hI ho hs hd)
    refine ih _ a' w' (by simpa using hl) (by omega) ?_
    rw [done_set hi']
    exact h
/-- The steps of a region's operations, one after the other. -/
def Steps (F : Fence) (n : Nat) (P : Program) (ops : Array Oper) (Q : Exit → Act → World → Prop) (Inv : (Nat → Bool) → Act → World → Prop) : Nat → List Oper → Prop
  | _, [] => True
  | k, o :: os => (∀ (s : Nat → Bool) (a : Act) (w : World), Inv s a w → s k = false → DepsIn .any o s = true →
      ∀ K : Act → World → Prop, (∀ a w, Inv (upd s k) a w → K a w) → if Region.wanted o (yielded ops a.tmps) = true then Oper.wpIn F n P o a w K Q else (∀ f, o.about P w a.eval = some f → F.fn f) ∧ K (a.put o.dst undef) w) ∧ Steps F n P ops Q Inv (k + 1) os
theorem Steps.at {Inv : (Nat → Bool) → Act → World → Prop} : ∀ {l : List Oper} {k : Nat}, Steps F n P ops Q Inv k l → ∀ i o, l[i]? = some o → ∀ (s : Nat → Bool) (a : Act) (w : World), Inv s a w → s (k + i) = false → DepsIn .any o s = true →
      ∀ K : Act → World → Prop, (∀ a w, Inv (upd s (k + i)) a w → K a w) → if Region.wanted o (yielded ops a.tmps) = true then Oper.wpIn F n P o a w K Q else (∀ f, o.about P w a.eval = some f → F.fn f) ∧ K (a.put o.dst undef) w
  | [], _, _, i, o, ho => by simp at ho
  | x :: xs, k, h, 0, o, ho => by
    simp only [List.getElem?_cons_zero, Option.some.injEq] at ho
    subst ho
    exact h.1
  | x :: xs, k, h, i + 1, o, ho => by
    simp only [List.getElem?_cons_succ] at ho
    have := Steps.at h.2 i o ho
    rwa [Nat.add_right_comm] at this
theorem wpIn_region_inv {id : Nat} {ls : List Oper} {a : Act} {w : World} (Inv : (Nat → Bool) → Act → World → Prop) (hm : P.follows .mixedOrders = true) (hT : Forward .any ls = true)
    (h0 : Inv (fun _ => false) a w.drew) (step : Steps F n P ls.toArray Q Inv 0 ls)
    (fin : ∀ (s : Nat → Bool) (a : Act) (w : World), (∀ i, i < ls.length → s i = true) → Inv s a w → Q .normal a w) :
    (Code.region id ls.toArray true).wpIn F n P Q a w := by
  refine wpIn_region_any hm ?_
  refine wpAnyIn_inv Inv hT (fun s a w i o hI ho hs hd => ?_) (fun s a w h hI => fin s a w (by simpa using h) hI) _ _ _ _ (by simp) ?_ ?_
  · refine wpOpIn_step ho (fun K hK => ?_)
    exact Steps.at step i o (by simpa using ho) s a w hI (by simpa using hs) hd K (by simpa using hK)
  · rw [Array.toList_replicate, List.count_replicate]
    simp
  · have : Done (Array.replicate ls.toArray.size false) = fun _ => false := by
      funext j
      simp only [Done, Array.getD_eq_getD_getElem?, Array.getElem?_replicate]
      split <;> rfl
    rw [this]
    exact h0
end
end Go.Proofs.Ytafljpfephomoaa
