/- weftlaw12.Tale: note, at. Conditions: the tale lies. -/
import Derived.Test.YtdpaaoeipconcaaDoorJTale
import Derived.Test.YtdpaaoeipconcaaDoorJTree
namespace Go.Proofs.YtdpaaoeipconcaaDoor
open Go.RowKit

/-- A point more: the last generation is what the tale holds now. -/
def PostNote (T : Nat → Prop) (w : World) (t : Nat) (vR : Value) (gi : List (Recs × Value)) (pts : List Pt) (rq : List (List UInt8 × Value)) (size written : Nat) (e : Ending) (w' : World) : Prop :=
  e = .returned (.tuple #[]) ∧ ∃ T' vG' vP', TaleM T' w' t vG' vP' vR gi [vR] (pts ++ [⟨gi.length, rq.length, written⟩]) rq size written ∧ (∀ k, T' k → T k ∨ w.heap.size ≤ k) ∧ Keeps (fun k => ¬ T k) w w'

set_option maxHeartbeats 4000000 in
theorem note_any (w : World) (T : Nat → Prop) (t : Nat) (vG vP vR x0 : Value) (gi : List (Recs × Value)) (pts : List Pt) (rq : List (List UInt8 × Value)) (size written : Nat) (h : TaleM T w t vG vP vR gi [x0] pts rq size written) (hn : pts.length ≤ 5000000000000) (hgn : gi.length ≤ 5000000000000) :
    Calls Tryd.prog 38 #[.pointer (some ⟨t, 0, none⟩)] w (PostNote T w t vR gi pts rq size written) := by
  obtain ⟨g0, cG, hvG, hnc, hcm, hce, hfr⟩ := own_cell h.g (i := gi.length) (by simp)
  rw [show gi.length + [x0].length = gi.length + 1 by rfl] at hvG hnc
  subst hvG
  have hx0 : (gi.map (·.2) ++ [x0])[gi.length]? = some x0 := by rw [List.getElem?_append_right (by simp)]; simp
  rw [hx0] at hce
  clear hx0
  have e0 : w.cell? ⟨t, 0, none⟩ = some (.slice (some ⟨g0, 0, none⟩) (gi.length + 1) cG) := cell_of_heap h.head
  have q1 : ((gi.length : Int) + 1 == 0) = false := by rw [beq_eq_false_iff_ne]; omega
  have q2 : (((gi.length + 1 : Nat) : Int) == 0) = false := by rw [beq_eq_false_iff_ne]; omega
  go_enter Tryd.func38, Tryd.ntmps38
  go_upto_region 2 with fail
  clear q1 q2 e0
  have h1 := h
  have HK1 := hid (Keeps.refl (fun k => ¬ T k) w)
  have HT1 : Hid (∀ k, T k → T k ∨ w.heap.size ≤ k) := hid fun k hk => .inl hk
  -- the last one
  have hro := h1.r.row
  obtain ⟨AR, cR, hvR, _, _⟩ := own_slice hro
  subst hvR
  obtain ⟨AP, cP, hvP, _, _⟩ := own_slice h1.p
  subst hvP
  have c0 : w.cell? ⟨t, 0, none⟩ = some (.slice (some ⟨g0, 0, none⟩) (gi.length + 1) cG) := cell_of_heap h1.head
  have c2 : w.cell? ⟨t, 2, none⟩ = some (.slice AR rq.length cR) := cell_of_heap h1.head
  have b1 : IntKind.i64.wrap ((gi.length : Int) + 1 - 1) = (gi.length : Int) := by rw [IntKind.wrap_i64]; omega
  have b2 : IntKind.i64.wrap (((gi.length + 1 : Nat) : Int) - 1) = (gi.length : Int) := by rw [IntKind.wrap_i64]; omega
  have b3 : (0 : Int) ≤ (gi.length : Int) := by omega
  have b4 : (gi.length : Int) < ((gi.length + 1 : Nat) : Int) := by omega
  have b5 : (gi.length : Int) < (gi.length : Int) + 1 := by omega
  go_upto_region 3 with fail
  obtain ⟨W2, hW2⟩ : ∃ W, W = (w.setCell ⟨g0, gi.length, none⟩ (.slice AR rq.length cR)).drew := ⟨_, rfl⟩
  have h2 : TaleM T W2 t (.slice (some ⟨g0, 0, none⟩) (gi.length + 1) cG) (.slice AP pts.length cP) (.slice AR rq.length cR) gi [.slice AR rq.length cR] pts rq size written := by
    rw [hW2]; exact h1.setLast.keep (Keeps.refl _ _).drew
  have k2 : Keeps (fun k => ¬ T k) w W2 := by rw [hW2]; exact ((Keeps.refl _ _).setCell (fun _ hn => hn (h1.gf g0 rfl)) _).drew
  refine wp_region_tree (fun w' => w'.cell? ⟨t, 0, none⟩ = some (.slice (some ⟨g0, 0, none⟩) (gi.length + 1) cG) ∧ w'.cell? ⟨t, 2, none⟩ = some (.slice AR rq.length cR)) 10
    (.take 0 (.take 1 (.take 2 (.take 3 (.take 4 (.take 5 (.take 6 (.take 7 (.take 8 (.take 9 .tail)))))))))) (by kernel_rfl) (by kernel_rfl) ⟨c0, c2⟩ ?_
  iterate 10 (refine pt_take (v := ?_) (by rfl) (by first | rfl | kernel_rfl) (fun w' hS => ?_) ?_; rotate_left 1; (obtain ⟨s0, s1⟩ := hS; go_simp <;> (try with_reducible rfl)); (simp only [Act.put, List.setIfInBounds_toArray, List.set_cons_zero, List.set_cons_succ]))
  refine pt_tail (by rfl) ?_
  clear c0 c2
  go_wp2
  rw [← hW2]
  refine NoPanic.normal ?_
  clear hW2 hce hfr
  have d1 : W2.cell? ⟨t, 1, none⟩ = some (.slice AP pts.length cP) := cell_of_heap h2.head
  have d2 : W2.cell? ⟨t, 2, none⟩ = some (.slice AR rq.length cR) := cell_of_heap h2.head
  have d4 : W2.cell? ⟨t, 4, none⟩ = some (.int .i64 (written : Int)) := cell_of_heap h2.head
  go_upto_region 4 with fail
  refine wp_region_tree (fun w' => w'.cell? ⟨t, 1, none⟩ = some (.slice AP pts.length cP) ∧ w'.cell? ⟨t, 2, none⟩ = some (.slice AR rq.length cR) ∧ w'.cell? ⟨t, 4, none⟩ = some (.int .i64 (written : Int))) 18
    (.take 0 (.take 1 (.take 2 (.take 3 (.take 4 (.take 5 (.take 6 (.take 7 (.take 8 (.take 9 (.take 10 (.take 11 (.take 12 (.take 13 (.take 14 (.take 15 (.one 16 (.one 17 .tail)))))))))))))))))) (by kernel_rfl) (by kernel_rfl) ⟨d1, d2, d4⟩ ?_
  iterate 16 (refine pt_take (v := ?_) (by rfl) (by first | rfl | kernel_rfl) (fun w' hS => ?_) ?_; rotate_left 1; (obtain ⟨s0, s1, s2⟩ := hS; go_simp <;> (try with_reducible rfl)); (simp only [Act.put, List.setIfInBounds_toArray, List.set_cons_zero, List.set_cons_succ]))
  refine pt_one (by rfl) (loudly_of (by first | rfl | kernel_rfl) (fun K hK => ?_))
  go_wp2
  obtain ⟨W3, hW3⟩ : ∃ W, W = (W2.alloc (.cells #[.int .i64 (gi.length : Int), .int .i64 (rq.length : Int), .int .i64 (written : Int)] 62)).drew := ⟨_, rfl⟩
  rw [← hW3]
  have K23 : Old W2 W3 := by rw [hW3]; exact ((Keeps.refl _ _).alloc _).drew
  have hb3 : W3.heap[W2.heap.size]? = some (.cells #[.int .i64 (gi.length : Int), .int .i64 (rq.length : Int), .int .i64 (written : Int)] 62 (0, 0)) := by rw [hW3]; exact heap_alloc_new _ _
  clear hW3
  refine hK _ _ ⟨(K23.cell (lt_of_cell d1) trivial).trans d1, (K23.cell (lt_of_cell d2) trivial).trans d2, (K23.cell (lt_of_cell d4) trivial).trans d4⟩ ?_
  clear hK K
  have h3 := h2.keep (K23.old _)
  have hrow3 := h3.p
  refine pt_one (by rfl) (loudly_of (by first | rfl | kernel_rfl) (fun K hK => ?_))
  refine wp_append_ex W3 _ _ 58 62 (by rfl) Tryd.underlying58 info62 (by rfl) (by omega) (by rfl) hrow3 (some ⟨W2.heap.size, 0, none⟩) 1 1 [.int .i64 (gi.length : Int), .int .i64 (rq.length : Int), .int .i64 (written : Int)] (by rfl) (by rfl) (fun _ => ⟨_, rfl, World.news_of_block hb3⟩) (three_one rfl rfl rfl) (by omega) (by unfold maxLen; omega) ?_
  intro v2 W4 hown4 hgrow4 hat4
  simp only [Act.put, List.setIfInBounds_toArray, List.set_cons_zero, List.set_cons_succ]
  have K34 : Keeps (fun k => (Value.slice AP pts.length cP).ownBlock ≠ some k) W3 W4 := (Keeps.refl _ W3).grown hgrow4 (fun k _ h hn => hn h)
  obtain ⟨a1, a2, a3, a4, a5⟩ := h3.apart
  have hh4 := K34.heap h3.head a2
  have z1 : W4.cell? ⟨t, 1, none⟩ = some (.slice AP pts.length cP) := cell_of_heap hh4
  have z2 : W4.cell? ⟨t, 2, none⟩ = some (.slice AR rq.length cR) := cell_of_heap hh4
  have z4 : W4.cell? ⟨t, 4, none⟩ = some (.int .i64 (written : Int)) := cell_of_heap hh4
  have zf : ∀ i, W4.frozen? ⟨t, i, none⟩ = false := fun i => frozen_of_heap hh4
  have L := h3.pushP (x := ⟨gi.length, rq.length, written⟩) K34 hown4 hat4
  have KK : Keeps (fun k => ¬ T k) w (W4.setCell ⟨t, 1, none⟩ v2) := (((k2.trans' (K23.old _)).trans (K34.mono fun k _ hk e => hk (h3.pf k e)) fun _ _ hk => hk)).setCell (fun _ hk => hk h3.ft) _
  have hs2 := k2.size
  have hs3 := K23.size
  obtain ⟨A4, c4', hv2, _, _⟩ := own_slice hown4
  subst hv2
  have LL := hid (And.intro L KK)
  clear L KK a1 a2 a3 a4 a5
  refine hK _ _ ⟨z1, z2, z4⟩ ?_
  clear hK K
  refine pt_tail (by rfl) ?_
  go_wp2
  refine NoPanic.normal ?_
  go_wp2
  first | go_end0 | skip
  refine ⟨rfl, _, _, _, LL.out.1, fun k hk => ?_, HK1.out.trans LL.out.2 fun k hk hn h => ?_⟩
  · rcases hk with hk | hk
    · exact HT1.out k hk
    · rcases hat4 with e | e
      · rw [e] at hk; exact HT1.out k (h3.pf k hk)
      · rw [e] at hk; injection hk with hk; right; have := HK1.out.size; omega
  · rcases HT1.out k h with h | h
    · exact hn h
    · omega


set_option maxHeartbeats 4000000 in
theorem note_new (w : World) (T : Nat → Prop) (t : Nat) (vP vR : Value) (pts : List Pt) (rq : List (List UInt8 × Value)) (size written : Nat) (h : TaleM T w t (.slice none 0 0) vP vR [] [] pts rq size written) (hn : pts.length ≤ 5000000000000) :
    Calls Tryd.prog 38 #[.pointer (some ⟨t, 0, none⟩)] w (PostNote T w t vR [] pts rq size written) := by
  have e0 : w.cell? ⟨t, 0, none⟩ = some (.slice none 0 0) := cell_of_heap h.head
  have kw : Old w (w.alloc (.cells #[.slice none 0 0] 35)) := (Keeps.refl _ _).alloc _
  have hbb : (w.alloc (.cells #[.slice none 0 0] 35)).heap[w.heap.size]? = some (.cells #[.slice none 0 0] 35 (0, 0)) := heap_alloc_new _ _
  have ha := h.keep (kw.old _)
  obtain ⟨W0, hW0⟩ : ∃ W, W = w.alloc (.cells #[.slice none 0 0] 35) := ⟨_, rfl⟩
  rw [← hW0] at kw hbb ha
  have hra := ha.g
  obtain ⟨x0, hx0⟩ : ∃ x0 : Value, x0 = .slice none 0 0 := ⟨_, rfl⟩
  go_enter Tryd.func38, Tryd.ntmps38
  go_upto_region 1 with fail
  go_upto_region 2 with (at_builtin; rw [← hW0]; refine wpList_append_ex _ (by rfl) _ _ 57 35 (by rfl) Tryd.underlying57 info35 (by rfl) (by omega) (by rfl) hra (some ⟨w.heap.size, 0, none⟩) 1 1 [.slice none 0 0] (by rfl) (by rfl) (fun _ => ⟨_, rfl, World.news_of_block hbb⟩) (one_one rfl) (by simp) (by unfold maxLen; simp) ?_; intro v1 Wa hown1 hgrow1 hat1; obtain ⟨A1, c1, hv1, _, _⟩ := own_slice hown1; have Ka : Keeps (fun k => (Value.slice none 0 0).ownBlock ≠ some k) W0 Wa := (Keeps.refl _ W0).grown hgrow1 (fun k _ h hn => hn h); have hha := Ka.heap ha.head ha.apart.1; have y0 : Wa.cell? ⟨t, 0, none⟩ = some (.slice none 0 0) := cell_of_heap hha; have yf : ∀ i, Wa.frozen? ⟨t, i, none⟩ = false := fun i => frozen_of_heap hha; have h1 := ha.pushG Ka hown1 hat1; subst hv1)
  have hyw := kw.size
  have k1 : Keeps (fun k => ¬ T k) w (Wa.setCell ⟨t, 0, none⟩ (.slice A1 (([] : List (Recs × Value)).length + ([] : List Value).length + 1) c1)) := ((kw.old _).trans (Ka.mono fun k _ _ e => by simp [Value.ownBlock] at e) fun _ _ hk => hk).setCell (fun _ hk => hk h.ft) _
  have hT1 : ∀ k, (fun k => T k ∨ (Value.slice A1 (([] : List (Recs × Value)).length + ([] : List Value).length + 1) c1).ownBlock = some k) k → T k ∨ w.heap.size ≤ k := fun k hk => by
    rcases hk with hk | hk
    · exact .inl hk
    · rcases hat1 with e | e
      · rw [e] at hk; simp [Value.ownBlock] at hk
      · rw [e] at hk; injection hk with hk; right; omega
  clear hown1 hgrow1 hat1 Ka hha y0 yf hra ha hbb kw e0 h hW0
  generalize Wa.setCell ⟨t, 0, none⟩ (.slice A1 (([] : List (Recs × Value)).length + ([] : List Value).length + 1) c1) = W1 at *
  rw [List.nil_append, ← hx0] at h1
  generalize (fun k => T k ∨ (Value.slice A1 (([] : List (Recs × Value)).length + ([] : List Value).length + 1) c1).ownBlock = some k) = T1 at h1 hT1
  have HK1 := hid k1
  have HT1 := hid hT1
  clear k1 hT1 hyw
  obtain ⟨gi, hgi⟩ : ∃ gi : List (Recs × Value), gi = [] := ⟨_, rfl⟩
  rw [← hgi] at h1
  have hgn : gi.length ≤ 0 := by rw [hgi]; exact Nat.le_refl _
  have HGI := hid hgi
  clear hgi
  obtain ⟨g0, cG, hvG, hnc, hcm, hce, hfr⟩ := own_cell h1.g (i := gi.length) (by simp)
  rw [hvG] at h1
  clear hvG
  rw [show gi.length + [x0].length = gi.length + 1 by rfl] at hnc h1
  have hx0' : (gi.map (·.2) ++ [x0])[gi.length]? = some x0 := by rw [List.getElem?_append_right (by simp)]; simp
  rw [hx0'] at hce
  clear hx0' hx0
  have e0 : W1.cell? ⟨t, 0, none⟩ = some (.slice (some ⟨g0, 0, none⟩) (gi.length + 1) cG) := cell_of_heap h1.head
  -- the last one
  have hro := h1.r.row
  obtain ⟨AR, cR, hvR, _, _⟩ := own_slice hro
  subst hvR
  obtain ⟨AP, cP, hvP, _, _⟩ := own_slice h1.p
  subst hvP
  have c0 : W1.cell? ⟨t, 0, none⟩ = some (.slice (some ⟨g0, 0, none⟩) (gi.length + 1) cG) := cell_of_heap h1.head
  have c2 : W1.cell? ⟨t, 2, none⟩ = some (.slice AR rq.length cR) := cell_of_heap h1.head
  have b1 : IntKind.i64.wrap ((gi.length : Int) + 1 - 1) = (gi.length : Int) := by rw [IntKind.wrap_i64]; omega
  have b2 : IntKind.i64.wrap (((gi.length + 1 : Nat) : Int) - 1) = (gi.length : Int) := by rw [IntKind.wrap_i64]; omega
  have b3 : (0 : Int) ≤ (gi.length : Int) := by omega
  have b4 : (gi.length : Int) < ((gi.length + 1 : Nat) : Int) := by omega
  have b5 : (gi.length : Int) < (gi.length : Int) + 1 := by omega
  go_upto_region 3 with fail
  obtain ⟨W2, hW2⟩ : ∃ W, W = (W1.setCell ⟨g0, gi.length, none⟩ (.slice AR rq.length cR)).drew := ⟨_, rfl⟩
  have h2 : TaleM T1 W2 t (.slice (some ⟨g0, 0, none⟩) (gi.length + 1) cG) (.slice AP pts.length cP) (.slice AR rq.length cR) gi [.slice AR rq.length cR] pts rq size written := by
    rw [hW2]; exact h1.setLast.keep (Keeps.refl _ _).drew
  have k2 : Keeps (fun k => ¬ T1 k) W1 W2 := by rw [hW2]; exact ((Keeps.refl _ _).setCell (fun _ hn => hn (h1.gf g0 rfl)) _).drew
  refine wp_region_tree (fun w' => w'.cell? ⟨t, 0, none⟩ = some (.slice (some ⟨g0, 0, none⟩) (gi.length + 1) cG) ∧ w'.cell? ⟨t, 2, none⟩ = some (.slice AR rq.length cR)) 10
    (.take 0 (.take 1 (.take 2 (.take 3 (.take 4 (.take 5 (.take 6 (.take 7 (.take 8 (.take 9 .tail)))))))))) (by kernel_rfl) (by kernel_rfl) ⟨c0, c2⟩ ?_
  iterate 10 (refine pt_take (v := ?_) (by rfl) (by first | rfl | kernel_rfl) (fun w' hS => ?_) ?_; rotate_left 1; (obtain ⟨s0, s1⟩ := hS; go_simp <;> (try with_reducible rfl)); (simp only [Act.put, List.setIfInBounds_toArray, List.set_cons_zero, List.set_cons_succ]))
  refine pt_tail (by rfl) ?_
  clear c0 c2
  go_wp2
  rw [← hW2]
  refine NoPanic.normal ?_
  clear hW2 hce hfr
  have d1 : W2.cell? ⟨t, 1, none⟩ = some (.slice AP pts.length cP) := cell_of_heap h2.head
  have d2 : W2.cell? ⟨t, 2, none⟩ = some (.slice AR rq.length cR) := cell_of_heap h2.head
  have d4 : W2.cell? ⟨t, 4, none⟩ = some (.int .i64 (written : Int)) := cell_of_heap h2.head
  go_upto_region 4 with fail
  refine wp_region_tree (fun w' => w'.cell? ⟨t, 1, none⟩ = some (.slice AP pts.length cP) ∧ w'.cell? ⟨t, 2, none⟩ = some (.slice AR rq.length cR) ∧ w'.cell? ⟨t, 4, none⟩ = some (.int .i64 (written : Int))) 18
    (.take 0 (.take 1 (.take 2 (.take 3 (.take 4 (.take 5 (.take 6 (.take 7 (.take 8 (.take 9 (.take 10 (.take 11 (.take 12 (.take 13 (.take 14 (.take 15 (.one 16 (.one 17 .tail)))))))))))))))))) (by kernel_rfl) (by kernel_rfl) ⟨d1, d2, d4⟩ ?_
  iterate 16 (refine pt_take (v := ?_) (by rfl) (by first | rfl | kernel_rfl) (fun w' hS => ?_) ?_; rotate_left 1; (obtain ⟨s0, s1, s2⟩ := hS; go_simp <;> (try with_reducible rfl)); (simp only [Act.put, List.setIfInBounds_toArray, List.set_cons_zero, List.set_cons_succ]))
  refine pt_one (by rfl) (loudly_of (by first | rfl | kernel_rfl) (fun K hK => ?_))
  go_wp2
  obtain ⟨W3, hW3⟩ : ∃ W, W = (W2.alloc (.cells #[.int .i64 (gi.length : Int), .int .i64 (rq.length : Int), .int .i64 (written : Int)] 62)).drew := ⟨_, rfl⟩
  rw [← hW3]
  have K23 : Old W2 W3 := by rw [hW3]; exact ((Keeps.refl _ _).alloc _).drew
  have hb3 : W3.heap[W2.heap.size]? = some (.cells #[.int .i64 (gi.length : Int), .int .i64 (rq.length : Int), .int .i64 (written : Int)] 62 (0, 0)) := by rw [hW3]; exact heap_alloc_new _ _
  clear hW3
  refine hK _ _ ⟨(K23.cell (lt_of_cell d1) trivial).trans d1, (K23.cell (lt_of_cell d2) trivial).trans d2, (K23.cell (lt_of_cell d4) trivial).trans d4⟩ ?_
  clear hK K
  have h3 := h2.keep (K23.old _)
  have hrow3 := h3.p
  refine pt_one (by rfl) (loudly_of (by first | rfl | kernel_rfl) (fun K hK => ?_))
  refine wp_append_ex W3 _ _ 58 62 (by rfl) Tryd.underlying58 info62 (by rfl) (by omega) (by rfl) hrow3 (some ⟨W2.heap.size, 0, none⟩) 1 1 [.int .i64 (gi.length : Int), .int .i64 (rq.length : Int), .int .i64 (written : Int)] (by rfl) (by rfl) (fun _ => ⟨_, rfl, World.news_of_block hb3⟩) (three_one rfl rfl rfl) (by omega) (by unfold maxLen; omega) ?_
  intro v2 W4 hown4 hgrow4 hat4
  simp only [Act.put, List.setIfInBounds_toArray, List.set_cons_zero, List.set_cons_succ]
  have K34 : Keeps (fun k => (Value.slice AP pts.length cP).ownBlock ≠ some k) W3 W4 := (Keeps.refl _ W3).grown hgrow4 (fun k _ h hn => hn h)
  obtain ⟨a1, a2, a3, a4, a5⟩ := h3.apart
  have hh4 := K34.heap h3.head a2
  have z1 : W4.cell? ⟨t, 1, none⟩ = some (.slice AP pts.length cP) := cell_of_heap hh4
  have z2 : W4.cell? ⟨t, 2, none⟩ = some (.slice AR rq.length cR) := cell_of_heap hh4
  have z4 : W4.cell? ⟨t, 4, none⟩ = some (.int .i64 (written : Int)) := cell_of_heap hh4
  have zf : ∀ i, W4.frozen? ⟨t, i, none⟩ = false := fun i => frozen_of_heap hh4
  have L := h3.pushP (x := ⟨gi.length, rq.length, written⟩) K34 hown4 hat4
  have KK : Keeps (fun k => ¬ T1 k) W1 (W4.setCell ⟨t, 1, none⟩ v2) := (((k2.trans' (K23.old _)).trans (K34.mono fun k _ hk e => hk (h3.pf k e)) fun _ _ hk => hk)).setCell (fun _ hk => hk h3.ft) _
  have hs2 := k2.size
  have hs3 := K23.size
  obtain ⟨A4, c4', hv2, _, _⟩ := own_slice hown4
  subst hv2
  have LL := hid (And.intro L KK)
  clear L KK a1 a2 a3 a4 a5
  refine hK _ _ ⟨z1, z2, z4⟩ ?_
  clear hK K
  refine pt_tail (by rfl) ?_
  go_wp2
  refine NoPanic.normal ?_
  go_wp2
  first | go_end0 | skip
  refine ⟨rfl, _, _, _, (by have q := LL.out.1; rw [HGI.out] at q; exact q), fun k hk => ?_, HK1.out.trans LL.out.2 fun k hk hn h => ?_⟩
  · rcases hk with hk | hk
    · exact HT1.out k hk
    · rcases hat4 with e | e
      · rw [e] at hk; exact HT1.out k (h3.pf k hk)
      · rw [e] at hk; injection hk with hk; right; have := HK1.out.size; omega
  · rcases HT1.out k h with h | h
    · exact hn h
    · omega

end Go.Proofs.YtdpaaoeipconcaaDoor

