/- A range over a function whose iterator has memory of its own (blocks of kinds that the body never turns). Over any program. -/
import Derived.Test.YtpbpdgknjbjlcaaRg
namespace Go.Proofs.Ytpbpdgknjbjlcaa
open Go.RowKit
variable {F : Fence} {n : Nat} {P : Program}
def AbidesP {β : Type} (B : Nat) (pv : Obj → Prop) (J : β → World → Prop) : Prop :=
  ∀ s W W' row, J s W → W.grownBy W' row → (∀ r, row = some r → B ≤ r ∧ ∃ o : Obj, W.heap[r]? = some o ∧ (o.isWalk = true ∨ pv o)) → J s W'
def OwnP {β : Type} (B : Nat) (pv : Obj → Prop) (I : β → World → Prop) : Prop :=
  ∀ s W W' row, I s W → W.grownBy W' row → (∀ r, row = some r → B ≤ r ∧ ∃ o : Obj, W.heap[r]? = some o ∧ (o.isCells = false ∨ pv o)) → I s W'
theorem OwnP.putObj {β : Type} {B : Nat} {pv : Obj → Prop} {I : β → World → Prop} (h : OwnP B pv I) {s : β} {W : World} {l : Nat} {o : Obj} (o' : Obj) (hs : I s W) (hB : B ≤ l) (hl : W.heap[l]? = some o) (ho : o.isCells = false) : I s (W.putObj l o') :=
  h s W _ (some l) hs (grownBy_putObj' W l o') (fun r e => by cases e; exact ⟨hB, o, hl, .inl ho⟩)
theorem OwnP.alloc {β : Type} {B : Nat} {pv : Obj → Prop} {I : β → World → Prop} (h : OwnP B pv I) {s : β} {W : World} (o : Obj) (hs : I s W) : I s (W.alloc o) :=
  h s W _ none hs (World.grownBy_alloc W o none) (fun r e => by cases e)
/-- Blocks of such kinds are as they were. -/
def KeepP (pv : Obj → Prop) (W W' : World) : Prop := ∀ (b : Nat) (o : Obj), W.heap[b]? = some o → pv o → W'.heap[b]? = some o
theorem KeepP.trans {pv : Obj → Prop} {A B C : World} (h : KeepP pv A B) (k : KeepP pv B C) : KeepP pv A C := fun b o h1 h2 => k b o (h b o h1 h2) h2
theorem KeepP.put {pv : Obj → Prop} (hpv : ∀ o, pv o → o.isCells = true) {W : World} {l : Nat} {o o' : Obj} (hl : W.heap[l]? = some o) (ho : o.isCells = false) : KeepP pv W (W.putObj l o') := fun b u h1 h2 => by
  by_cases e : b = l
  · subst e
    rw [hl] at h1
    cases h1
    have := hpv _ h2
    rw [ho] at this
    cases this
  · exact (World.putObj_heap_other e).trans h1
def SeqP {α : Type} (F : Fence) (n : Nat) (P : Program) (g : Nat) (lb : Array Value) (encs : α → Array Value) (pv : Obj → Prop) (Kp : World → World → Prop) (xs : List α) (w : World) : Prop :=
  ∀ (l : Nat) (J Jx : List α → World → Prop) (W : World), Below w.heap.size w W → AbidesP W.heap.size pv J → AbidesP W.heap.size pv Jx →
    (∀ pre x W1, J pre W1 → (∃ post, xs = pre ++ x :: post) → YieldAt F (n - 1) P l (encs x) W1 fun e W' =>
      (e = .returned (.bool true) ∧ J (pre ++ [x]) W' ∧ Kp W1 W' ∧ KeepP pv W1 W') ∨ (e = .returned (.bool false) ∧ Jx (pre ++ [x]) W')) →
    J [] W →
    CallsIn F n P g (#[.func (.yield l) #[] #[]] ++ lb) W fun e W' => (∃ v, e = .returned v) ∧ (J xs W' ∨ ∃ pre, (∃ post, xs = pre ++ post) ∧ Jx pre W')
theorem range_listP {α : Type} {g : Operand} {ps : Array Tmp} {assign body : Code} {Q : Exit → Act → World → Prop} {a : Act} {w : World}
    (hro : F.round = none) (h1 : 1 ≤ n) {gf : Nat} {lb : Array Value} (hg : a.eval g = .func (.func gf) #[] lb) (hFg : F.fn gf) (eg : ∀ args w, (callFunc gf args).run P w = .ok (.enter gf args) w)
    {encs : α → Array Value} {bs : List Nat} {pv : Obj → Prop} (hpv : ∀ o, pv o → o.isCells = true) {xs : List α} {w0 : World} (hseq : SeqP F (n - 1) P gf lb encs pv (KeepB bs) xs w0) (hbs : ∀ b ∈ bs, b < w.heap.size)
    (hb0 : Below w0.heap.size w0 w) (hps : ∀ x, (encs x).size = ps.size)
    (I : List α → World → Prop) (Ix : Code → List α → World → Prop) (hI : OwnP w.heap.size pv I) (hIx : ∀ c, OwnP w.heap.size pv (Ix c)) (h0 : I [] w) (a₁ : α → Nat → Act) (ob : α → Obj)
    (hassign : ∀ (l : Nat) (x : α) (W : World) (K : Act → World → Prop), K (a₁ x W.heap.size) (W.alloc (ob x)) →
      assign.wpIn (F.inRound l) (n - 1 - 1) P (Exit.then K (fun _ _ _ => False)) { tmps := (ps.zip (encs x)).foldl (fun t (p, v) => t.setIfInBounds p v) a.tmps, defers := [] } W)
    (hbody : ∀ (l : Nat) (pre : List α) (x : α) (W : World) (z : Nat), w.heap.size ≤ l → (∃ r : Loop, W.heap[l]? = some (.loop r)) → I pre W → (∃ post, xs = pre ++ x :: post) → w.heap.size ≤ z → W.heap[z]? = some (ob x) → body.wpIn (F.inRound l) (n - 1 - 1) P (ownPostK (fun A B => KeepB bs A B ∧ KeepP pv A B) I Ix (pre ++ [x]) W) (a₁ x z) W)
    (hdone : ∀ (D : Nat) (W : World), w.heap.size ≤ D → I xs W → W.heap[D]? = some (.deferred (some [])) → Q .normal { a with defers := { target := .collected D, args := #[] } :: a.defers } W)
    (hstop : ∀ (D : Nat) (c : Code) (pre : List α) (W : World), w.heap.size ≤ D → (∃ post, xs = pre ++ post) → Ix c pre W → W.heap[D]? = some (.deferred (some [])) → c.wpIn F n P Q { a with defers := { target := .collected D, args := #[] } :: a.defers } W) :
    (Code.rangeFunc g ps assign body).wpIn F n P Q a w := by
  refine wpIn_rangeFunc fun fn hfn => ?_
  rw [hro]
  obtain ⟨rec, hrec⟩ : ∃ rec : LoopState → Option Code → Loop, rec = fun st pe => { state := st, pending := pe, fn, tmps := a.tmps, params := ps, assign, body, defers := w.heap.size } := ⟨_, rfl⟩
  have R1 : ∀ st pe, (rec st pe).state = st := fun st pe => by rw [hrec]
  obtain ⟨W1, hW1⟩ : ∃ W1, (w.alloc (.deferred (some []))).alloc (.loop (rec .ready none)) = W1 := ⟨_, rfl⟩
  have hs1 : W1.heap.size = w.heap.size + 2 := by rw [← hW1]; simp
  have hL1 : W1.heap[w.heap.size + 1]? = some (.loop (rec .ready none)) := by
    rw [← hW1]
    have := World.alloc_heap_new (w.alloc (.deferred (some []))) (.loop (rec .ready none))
    rwa [World.size_alloc] at this
  have hD1 : W1.heap[w.heap.size]? = some (.deferred (some [])) := by
    rw [← hW1]
    exact (Below.heap_alloc _ _ _ (by simp)).trans (World.alloc_heap_new w _)
  have hB1 : Below w0.heap.size w0 W1 := by
    rw [← hW1]
    exact hb0.trans ((((Below.refl _ w).alloc (Nat.le_refl _) _).alloc (by simp) _).mono hb0.size)
  -- what the caller says, and the two blocks of the loop's own
  let J : List α → World → Prop := fun pre W => I pre W ∧ W.heap[w.heap.size + 1]? = some (.loop (rec .ready none)) ∧ W.heap[w.heap.size]? = some (.deferred (some []))
  let Jx : List α → World → Prop := fun pre W => ∃ c, Ix c pre W ∧ W.heap[w.heap.size + 1]? = some (.loop (rec .done (some c))) ∧ W.heap[w.heap.size]? = some (.deferred (some []))
  have hrows : ∀ {A B : World} {row : Option Nat}, (∀ r, row = some r → W1.heap.size ≤ r ∧ ∃ o : Obj, A.heap[r]? = some o ∧ (o.isWalk = true ∨ pv o)) → (∀ r, row = some r → w.heap.size ≤ r ∧ ∃ o : Obj, A.heap[r]? = some o ∧ (o.isCells = false ∨ pv o)) :=
    fun hr r e => by
      obtain ⟨hl, o, ho, hw⟩ := hr r e
      exact ⟨by omega, o, ho, hw.imp Obj.not_cells_of_walk id⟩
  have hkeep : ∀ {A B : World} {row : Option Nat} {k : Nat} {o : Obj}, A.grownBy B row → (∀ r, row = some r → W1.heap.size ≤ r ∧ ∃ o : Obj, A.heap[r]? = some o ∧ (o.isWalk = true ∨ pv o)) → k < W1.heap.size → A.heap[k]? = some o → B.heap[k]? = some o :=
    fun hgr hr hk ho => (hgr.block _ (Array.getElem?_eq_some_iff.1 ho).1 (fun e => by have := (hr _ e.symm).1; omega)).trans ho
  refine ⟨w.heap.size + 1, [{ target := .collected w.heap.size, args := #[] }], W1, { target := .fn (.func gf) lb, args := #[.func (.yield (w.heap.size + 1)) #[] #[]] }, W1, gf,
    #[.func (.yield (w.heap.size + 1)) #[] #[]] ++ lb, W1, ?_, ?_, ?_, ?_, fun _ => h1, ?_⟩
  · rw [← hW1, hrec]; exact run_enterLoop_outer _ _ _ _ _
  · simp only [resolve, hg]; simp [go_sem]
  · intro f' hf'; simp [Target.leads] at hf'; subst hf'; exact hFg
  · simp [invoke, go_sem, eg]
  · refine (hseq (w.heap.size + 1) J Jx W1 hB1
      (fun s A B row hs hgr hr => ⟨hI s A B row hs.1 hgr (hrows (B := B) hr), hkeep hgr hr (by omega) hs.2.1, hkeep hgr hr (by omega) hs.2.2⟩)
      (fun s A B row hs hgr hr => by
        obtain ⟨c, hc, hl, hk⟩ := hs
        exact ⟨c, hIx c s A B row hc hgr (hrows (B := B) hr), hkeep hgr hr (by omega) hl, hkeep hgr hr (by omega) hk⟩)
      ?_ ⟨by rw [← hW1]; exact hI.alloc _ (hI.alloc _ h0), hL1, hD1⟩).mono ?_
    · rintro pre x W ⟨hi, hl, hk⟩ hpos
      have hlt : w.heap.size + 1 < W.heap.size := (Array.getElem?_eq_some_iff.1 hl).1
      have hy := run_yield (P := P) (args := encs x) hl (by rw [hrec]; exact hps x)
      rw [hrec] at hy
      have hzW : w.heap.size < W.heap.size := by omega
      obtain ⟨Wa, hWa⟩ : ∃ Wa, W.alloc (ob x) = Wa := ⟨_, rfl⟩
      have hla : Wa.heap[w.heap.size + 1]? = some (.loop (rec .ready none)) := by rw [← hWa]; exact (Below.heap_alloc _ _ _ hlt).trans hl
      have hka : Wa.heap[w.heap.size]? = some (.deferred (some [])) := by rw [← hWa]; exact (Below.heap_alloc _ _ _ hzW).trans hk
      have hlta : w.heap.size + 1 < Wa.heap.size := (Array.getElem?_eq_some_iff.1 hla).1
      have hia : I pre Wa := by rw [← hWa]; exact hI.alloc _ hi
      have hpa : KeepB bs W Wa := by rw [← hWa]; exact fun b hb => Below.heap_alloc _ _ _ (by have := hbs b hb; omega)
      have hoa : Wa.heap[W.heap.size]? = some (ob x) := by rw [← hWa]; exact World.alloc_heap_new W (ob x)
      refine ⟨fn, _, assign, body, hy, roundIn_of_wpIn hfn (hassign _ x W _ ?_)⟩
      rw [hWa]
      refine ⟨_, run_beginRound hla (R1 _ _), ?_⟩
      obtain ⟨W2, hW2⟩ : ∃ W2, Wa.putObj (w.heap.size + 1) (.loop { rec .ready none with state := .busy }) = W2 := ⟨_, rfl⟩
      rw [hW2]
      have hl2 : W2.heap[w.heap.size + 1]? = some (.loop { rec .ready none with state := .busy }) := by rw [← hW2]; exact World.putObj_heap_same hlta
      have hk2 : W2.heap[w.heap.size]? = some (.deferred (some [])) := by rw [← hW2]; exact (World.putObj_heap_other (by omega)).trans hka
      have hp2 : KeepB bs W W2 := by rw [← hW2]; exact hpa.trans (KeepB.put hbs _ _ _ (by omega))
      have hqa : KeepP pv W Wa := by rw [← hWa]; exact fun b o h1 _ => (Below.heap_alloc _ _ _ (Array.getElem?_eq_some_iff.1 h1).1).trans h1
      have hq2 : KeepP pv W W2 := by rw [← hW2]; exact hqa.trans (KeepP.put hpv hla rfl)
      have hi2 : I pre W2 := by rw [← hW2]; exact hI.putObj _ hia (by omega) hla rfl
      have ho2 : W2.heap[W.heap.size]? = some (ob x) := by rw [← hW2]; exact (World.putObj_heap_other (by omega)).trans hoa
      refine wpIn_mono (hbody _ pre x W2 W.heap.size (by omega) ⟨_, hl2⟩ hi2 hpos (by omega) ho2) ?_
      have hend : ∀ (jump : Option Code) (W3 : World), KeepsOthers W2 W3 →
          (Instr.endRound (w.heap.size + 1) jump).run P W3 = .ok (.bool jump.isNone) (W3.putObj (w.heap.size + 1) (.loop (rec (if jump.isNone then .ready else .done) jump))) ∧
          W3.heap[w.heap.size + 1]? = some (.loop { rec .ready none with state := .busy }) ∧
          (W3.putObj (w.heap.size + 1) (.loop (rec (if jump.isNone then .ready else .done) jump))).heap[w.heap.size + 1]? = some (.loop (rec (if jump.isNone then .ready else .done) jump)) ∧
          (W3.putObj (w.heap.size + 1) (.loop (rec (if jump.isNone then .ready else .done) jump))).heap[w.heap.size]? = some (.deferred (some [])) := by
        intro jump W3 hk3
        have hl3 := hk3.same _ _ hl2 rfl
        have hr := run_endRound (P := P) jump hl3
        rw [hrec] at hr ⊢
        exact ⟨hr, by rw [hrec] at hl3; exact hl3, World.putObj_heap_same (Array.getElem?_eq_some_iff.1 hl3).1, (World.putObj_heap_other (by omega)).trans (hk3.same _ _ hk2 rfl)⟩
      rintro e a3 W3 hp
      have leave : ∀ c : Code, KeepsOthers W2 W3 → Ix c (pre ++ [x]) W3 → Jx (pre ++ [x]) (W3.putObj (w.heap.size + 1) (.loop (rec .done (some c)))) ∧ (Instr.endRound (w.heap.size + 1) (some c)).run P W3 = .ok (.bool false) (W3.putObj (w.heap.size + 1) (.loop (rec .done (some c)))) := by
        intro c hk3 hi3
        obtain ⟨hr, hl3, hl4, hk4⟩ := hend (some c) W3 hk3
        exact ⟨⟨c, (hIx _).putObj _ hi3 (by omega) hl3 rfl, hl4, hk4⟩, hr⟩
      cases e with
      | normal =>
        obtain ⟨hk3, hkp3, hi3⟩ := hp
        obtain ⟨hr, hl3, hl4, hk4⟩ := hend none W3 hk3
        exact ⟨_, _, hr, .inl ⟨rfl, ⟨hI.putObj _ hi3 (by omega) hl3 rfl, hl4, hk4⟩, (hp2.trans hkp3.1).trans (KeepB.put hbs _ _ _ (by omega)), (hq2.trans hkp3.2).trans (KeepP.put hpv hl3 rfl)⟩⟩
      | ret => obtain ⟨hj, hr⟩ := leave .ret hp.1 hp.2; exact ⟨_, _, hr, .inr ⟨rfl, hj⟩⟩
      | exit id => obtain ⟨hj, hr⟩ := leave (.exit id) hp.1 hp.2; exact ⟨_, _, hr, .inr ⟨rfl, hj⟩⟩
      | goto t => obtain ⟨hj, hr⟩ := leave (.goto t) hp.1 hp.2; exact ⟨_, _, hr, .inr ⟨rfl, hj⟩⟩
      | panic ch => exact hp.elim
      | outgrown => exact hp.elim
    · rintro e W2 ⟨⟨v, rfl⟩, (⟨hi, hl, hk⟩ | ⟨pre, hpos, c, hi, hl, hk⟩)⟩
      · have he := run_endLoop (P := P) hl (by rw [R1]; simp)
        rw [hrec] at he
        exact ⟨none, _, he, hdone _ _ (by omega) (hI.putObj _ hi (by omega) hl rfl) ((World.putObj_heap_other (by omega)).trans hk)⟩
      · have he := run_endLoop (P := P) hl (by rw [R1]; simp)
        rw [hrec] at he
        exact ⟨some c, _, he, hstop _ c pre _ (by omega) hpos ((hIx c).putObj _ hi (by omega) hl rfl) ((World.putObj_heap_other (by omega)).trans hk)⟩
end Go.Proofs.Ytpbpdgknjbjlcaa
