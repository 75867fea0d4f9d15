/- law04's all: the pairs of a set, in a slice of its own. -/
import Derived.Test.YtlcmjpligaiadaaW6
import Derived.Test.YtlcmjpligaiadaaRg2
namespace Go.Proofs.Ytlcmjpligaiadaa
open Go.RowKit Go.Shelf
attribute [local go_sem] Oper.semAt_some
theorem own_cells {w : World} {base e n sz g : Nat} {v : Value} {xs : List Value} (h : w.ownsRow base e sz v n xs) (e1 : v.ownBlock = some g) : ∃ cur, w.heap[g]? = some (.cells cur e (0, 0)) := by
  rcases h.2 with ⟨rfl, _⟩ | ⟨g', cap, cur, rfl, _, hh, _⟩
  · simp [Value.ownBlock] at e1
  · simp [Value.ownBlock] at e1; subst e1; exact ⟨cur, hh⟩
theorem own_walks {A B : World} {base e n sz k : Nat} {v : Value} {xs : List Value} {row : Option Nat} (h : A.ownsRow base e sz v n xs) (hg : A.grownBy B row) (hr : ∀ r, row = some r → k ≤ r ∧ ∃ o : Obj, A.heap[r]? = some o ∧ o.isCells = false) : B.ownsRow base e sz v n xs :=
  own_far h hg fun g e1 e2 => by
    obtain ⟨cur, hc⟩ := own_cells h e1
    obtain ⟨_, o, ho, hn⟩ := hr g e2
    rw [hc] at ho
    obtain rfl := Option.some.inj ho
    cases hn
theorem own_base {w : World} {base base' e n sz : Nat} {v : Value} {xs : List Value} (h : w.ownsRow base e sz v n xs) (hb : base' ≤ base) : w.ownsRow base' e sz v n xs := by
  obtain ⟨h1, h2⟩ := h
  rcases h2 with ⟨rfl, rfl⟩ | ⟨g, cap, cur, rfl, hgb, r⟩
  · exact ⟨h1, .inl ⟨rfl, rfl⟩⟩
  · exact ⟨h1, .inr ⟨g, cap, cur, rfl, Nat.le_trans hb hgb, r⟩⟩
/-- The blocks of a slice. -/
def obs (v : Value) : List Nat := v.ownBlock.toList
theorem obs_mem {v : Value} {b : Nat} : b ∈ obs v ↔ v.ownBlock = some b := by unfold obs; simp
set_option maxRecDepth 100000 in
set_option maxHeartbeats 4000000 in
theorem allof_any (s base room : Nat) (v : Value) (l : List Pr) (w : World) (hs : SetAt w s base v room l) :
    Calls Try.prog 22 #[.pointer (some ⟨s, 0, none⟩)] w fun e w' => ∃ ov, e = .returned ov ∧ w'.ownsRow w.heap.size 42 2 ov l.length (pairCells l) ∧ Below w.heap.size w w' := by
  obtain ⟨i0, hi, hz0, hz1, hz2⟩ := info_parts info42
  have hlen := hs.len
  refine (callsIn_wide (n := 4)).1 ?_
  refine callsIn_of_wp_marks Try.func22 rfl trivial ?_ rfl
  simp only [Try.ntmps22, List.size_toArray, List.length_cons, List.length_nil, Nat.reduceAdd, Nat.reduceSub, Array.replicate_succ, Array.replicate_zero, List.push_toArray, List.append_toArray, List.nil_append, List.cons_append]
  refine wpIn_wide.2 ?_
  have B0 : Below w.heap.size w (w.alloc (.cells #[.slice none 0 0] 34)) := (Below.refl _ w).alloc (Nat.le_refl _) _
  go_wp2_with fail
  refine (all_any s base room v l _ (hs.new B0)).mono ?_
  rintro e w1 ⟨rfl, rfl⟩
  go_wp2_with fail
  obtain ⟨V, hV⟩ : ∃ V, (w.alloc (.cells #[.slice none 0 0] 34)).alloc (.cells #[v] 34) = V := ⟨_, rfl⟩
  have q3 : Blk V w.heap.size 34 [.slice none 0 0] := by rw [← hV]; exact (Blk.new w 34 [_]).alloc _
  have qb : Blk V (w.heap.size + 1) 34 [v] := by rw [← hV]; exact Blk.newAt (by simp) 34 [_]
  have BV : Below w.heap.size w V := by rw [← hV]; exact ((Below.refl _ _).alloc (Nat.le_refl _) _).alloc (by simp) _
  have hVs : w.heap.size + 2 ≤ V.heap.size := by rw [← hV]; simp
  rw [hV]
  clear hV
  have hsV := hs.new BV
  have howlt : ∀ b, v.ownBlock = some b → b < w.heap.size := fun b e => own_lt hs.own e
  have Hhow := Lib.hid howlt
  clear howlt
  refine wpIn_wide.1 (range_listB (F := Fence.wide) (n := 3) rfl (by decide) (gf := 89) (lb := #[.pointer (some ⟨w.heap.size + 1, 0, none⟩)]) rfl trivial (enters_of Try.func89 (by kernel_rfl) rfl)
    (values_seq Fence.wide 2 trivial rfl (by decide) (w.heap.size + 1) l.length ((w.heap.size + 1) :: obs v) v l V rfl qb hsV.rd (by simp) (fun b e => List.mem_cons_of_mem _ (obs_mem.2 e)) (by
      intro b hb
      rcases List.mem_cons.1 hb with rfl | hb
      · omega
      · have := Hhow.out b (obs_mem.1 hb); omega))
    (by
      intro b hb
      rcases List.mem_cons.1 hb with rfl | hb
      · omega
      · have := Hhow.out b (obs_mem.1 hb); omega)
    (Below.refl _ _) (fun _ => rfl)
    (fun pre W => ∃ ov, Blk W w.heap.size 34 [ov] ∧ W.ownsRow V.heap.size 42 2 ov pre.length (pairCells pre) ∧ Mod (fun j => j = w.heap.size ∨ V.heap.size ≤ j) V W)
    (fun _ _ _ => False)
    ?own ?ownx ⟨_, q3, World.ownsRow_nil _ _ _ _, Mod.refl _ _⟩
    (fun x z => { tmps := List.toArray (.pointer (some ⟨s, 0, none⟩) :: undef :: .slice none 0 0 :: .pointer (some ⟨w.heap.size, 0, none⟩) :: .pointer (some ⟨z, 0, none⟩) :: .pointer (some ⟨s, 0, none⟩) :: .func (.func 89) #[] #[.pointer (some ⟨w.heap.size + 1, 0, none⟩)] :: .agg #[.int .i64 x.1, .int .i64 x.2] :: undef :: undef :: undef :: undef :: undef :: []), defers := [] })
    (fun x => .cells #[.int .i64 x.1, .int .i64 x.2] 42)
    ?assign ?body ?done ?stop)
  case own =>
    rintro pre A B row ⟨ov, h1, h2, h3⟩ hg hr
    exact ⟨ov, h1.grown hg (fun e => by have := (hr _ e).1; omega), own_walks h2 hg hr, h3.grown hg (fun j e _ => .inr (hr j e).1)⟩
  case ownx => exact fun c pre A B row hs hg hr => hs
  case assign =>
    intro l x W K hK
    gi_wp2
    exact hK
  case stop => exact fun D c pre W hD hpos hs hK => hs.elim
  case body =>
    rintro li pre ⟨p1, p2⟩ W z hl ⟨r, hrr⟩ ⟨ov, h1, h2, h3⟩ ⟨post, hpost⟩ hz hzc
    have hbz : Blk W z 42 [.int .i64 p1, .int .i64 p2] := hzc
    have hT : pre.length < 4096 := by
      have := congrArg List.length hpost
      simp at this
      omega
    obtain ⟨oa, oc, rfl, o1, o2⟩ := (Rd.of_own h2).shape
    have e3 := h1.cell 0
    have f3 := h1.frozen 0
    have ez0 := hbz.cell 0
    have ez1 := hbz.cell 1
    simp only [List.getElem?_cons_zero, List.getElem?_cons_succ] at e3 ez0 ez1
    have hWs := h3.size
    have hbl := h1.lt
    gi_wp2_with (gi_at_builtin
                 refine wpListIn_append_own _ rfl _ _ 34 rfl V.heap.size 42 i0 (.agg #[.int .i64 0, .int .i64 0]) 2 16 Try.underlying34 hi hz0 hz1 hz2 rfl (by decide) _ _ _ rfl (h2.alloc _) ⟨W.heap.size, 0, none⟩ 1 1 [.int .i64 p1, .int .i64 p2] rfl rfl (World.news_of_block (cs := #[.int .i64 p1, .int .i64 p2]) (t := 42) (fr := (0, 0)) (heap_alloc_new W _)) (by simp [Value.oneCell']) (by unfold maxLen; omega) (by omega) (by simp; omega) ?_
                 intro v1 w1 o3 hg1 _
                 obtain ⟨na, nc, rfl, n1, n2⟩ := (Rd.of_own o3).shape
                 have hge : ∀ r, (Value.slice oa pre.length oc).ownBlock = some r → V.heap.size ≤ r := fun r e => ownBlock_ge h2 e
                 have hb1 := (h1.alloc (.cells #[.int .i64 p1, .int .i64 p2] 42)).grown hg1 (fun e => by have := hge _ e; omega)
                 have e31 := hb1.cell 0
                 have f31 := hb1.frozen 0
                 simp only [List.getElem?_cons_zero] at e31
                 have M1 : Mod (fun j => j = w.heap.size ∨ (Value.slice oa pre.length oc).ownBlock = some j) W w1 := ((Mod.refl _ W).alloc _).grown hg1 (fun k e _ => .inr e)
                 have Hge := Lib.hid hge
                 clear hge)
    have M2 := M1.setCell (p := ⟨w.heap.size, 0, none⟩) (fun _ => .inl rfl) (.slice na (pre.length + 1) nc)
    refine ⟨keepsOthers_mod M2 (fun b o hb ho => ?_), KeepB.mod M2 (fun b hb => ?_), .slice na (pre.length + 1) nc, hb1.set 0 _, ?_, h3.trans (M2.mono (fun j _ e => by rcases e with rfl | e; exact .inl rfl; exact .inr (Hge.out _ e)))⟩
    · rintro (rfl | e)
      · unfold Blk at h1; rw [h1] at hb; obtain rfl := Option.some.inj hb; cases ho
      · obtain ⟨cur, hc⟩ := own_cells h2 e
        rw [hc] at hb; obtain rfl := Option.some.inj hb; cases ho
    · have hb2 : b < V.heap.size ∧ b ≠ w.heap.size := by
        rcases List.mem_cons.1 hb with rfl | hb
        · omega
        · have := Hhow.out b (obs_mem.1 hb); omega
      exact ⟨by omega, by rintro (e | e); exact hb2.2 e; have := Hge.out _ e; omega⟩
    · rw [List.length_append, pairs_append]
      exact ownsRow_setCell_other (a := ⟨w.heap.size, 0, none⟩) o3 (own_ne o3 hb1 (by decide)) _
  case done =>
    rintro D W hD ⟨ov, h1, h2, h3⟩ hK
    obtain ⟨oa, oc, rfl, o1, o2⟩ := (Rd.of_own h2).shape
    have e3 := h1.cell 0
    simp only [List.getElem?_cons_zero] at e3
    gi_wp2
    go_wp2
    refine ⟨by simp, .inl ⟨_, _, rfl, run_takeDeferred hK, ?_⟩⟩
    have mD : Mod (fun j => j = D) W (W.putObj D (.deferred none)) := (Mod.refl _ _).putObj D _ (fun _ => rfl)
    have hDb : (Value.slice oa l.length oc).ownBlock ≠ some D := by
      intro e
      obtain ⟨cur, hc⟩ := own_cells h2 e
      rw [hc] at hK; cases hK
    refine ⟨.slice oa l.length oc, ?_, .slice oa l.length oc, rfl, ?_, ?_⟩
    · simp [results, Try.f22, go_sem]
    · have o3 := own_keep h2 (fun g cur e hc => mD.block g (Array.getElem?_eq_some_iff.1 hc).1 (fun h => hDb (h ▸ e)))
      exact own_base o3 BV.size
    · exact BV.trans ((h3.trans (mD.mono (fun j _ e => .inr (by rw [e]; exact hD)))).below (B := w.heap.size) BV.size (fun j h1 h2 => by omega))
end Go.Proofs.Ytlcmjpligaiadaa
