/- weftlaw12.first: the document's example, byte for byte. Condition: the table lies. -/
import Derived.Test.YtdpaaoeipconcaaDoorJExample
namespace Go.Proofs.YtdpaaoeipconcaaDoor
open Go.RowKit

set_option maxRecDepth 10000 in
set_option maxHeartbeats 4000000 in
theorem first_walk (w : World) (hT : Tab w) (j0 j1 j2 j3 : Jn) (eb : List UInt8) (h0 : openJ ([], []) = some (j0, [])) (h1 : appendJ j0 [97, 98] = (0, j1)) (h2 : appendJ j1 [] = (0, j2)) (he : j2.end_ = 42) (hd : dirtyN j2.ws = 42)
    (hc : crashJ j2 99 = (eb, [])) (hb : openJ (eb, []) = some (j3, [[97, 98], []])) (hx : ∀ w, Calls Tryd.prog 55 #[] w (PostOwn w eb)) (l0 : j0.ws.length ≤ 10) (l1 : j1.ws.length ≤ 10) (l2 : j2.ws.length ≤ 10) : Calls Tryd.prog 18 #[] w fun e w' => e = .returned (.bool true) ∧ Old w w' := by
  have ho := lopen_any w (fun _ => False) none none 0 0 0 0 [] [] (Bts.nil _ _ _) (Bts.nil _ _ _) rfl rfl (Nat.le_refl _) (Nat.le_refl _) hT
  rw [h0] at ho
  have HX := hid (And.intro hx (And.intro h1 (And.intro h2 (And.intro hc hb))))
  clear hx h1 h2 hc hb h0
  have hpos := hT.pos
  go_enter Tryd.func18, Tryd.ntmps18
  go_wp2_with fail
  refine ho.mono ?_
  rintro e w1 ⟨F, g, vA, vB, vP, q, L, ql, rfl, hL, hF, hql, hoL, k1⟩
  have hql0 : ql = [] := by simpa using hql
  subst hql0
  obtain ⟨AL, cL, rfl, _, _⟩ := own_slice hoL.row
  clear ho hql hoL
  obtain ⟨W2, hW2⟩ : ∃ W, W = w1.alloc (.cells #[Value.int .u8 97, .int .u8 98] 5) := ⟨_, rfl⟩
  have k2 : Old w1 W2 := by rw [hW2]; exact (Keeps.refl _ _).alloc _
  have hb2 : W2.heap[w1.heap.size]? = some (.cells (([97, 98] : List UInt8).map bv).toArray 5 (0, 0)) := by rw [hW2]; exact heap_alloc_new _ _
  have hap := append_any W2 F (fun k => k = w1.heap.size) g vA vB vP q j0 (some ⟨w1.heap.size, 0, none⟩) 2 2 [97, 98] (hL.keep (k2.old _)) (Bts.of_block hb2 (by decide)) rfl (hT.keep ((k1.trans' k2).old (fun _ => True)) trivial) (by omega)
  rw [HX.out.2.1] at hap
  have z1 := k1.size
  have z2 := k2.size
  clear hb2
  go_wp2_with fail
  rw [← hW2]
  clear hW2
  refine hap.mono ?_
  rintro e w3 ⟨rfl, F1, vP1, q1, hL1, hF1, k3⟩
  clear hap
  have K3 : Old w w3 := (k1.trans' k2).trans k3 fun k hk _ h => by have := hF k h; omega
  have z3 := k3.size
  simp only at hL1
  have hap2 := append_any w3 F1 (fun _ => False) g vA vB vP1 q1 j1 none 0 0 [] hL1 (Bts.nil _ _ _) rfl (hT.keep (K3.old (fun _ => True)) trivial) (by omega)
  rw [HX.out.2.2.1] at hap2
  go_wp2_with fail
  refine hap2.mono ?_
  rintro e w4 ⟨rfl, F2, vP2, q2, hL2, hF2, k4⟩
  clear hap2
  have K4 : Old w w4 := K3.trans k4 fun k hk _ h => by
    rcases hF1 k h with h | h
    · have := hF k h; omega
    · omega
  simp only at hL2
  have hsz := lsize_any hL2
  have hdy := ldirty_any hL2 (by omega)
  rw [he, show ((42 : Nat) : Int) = 42 from rfl] at hsz
  rw [hd, show ((42 : Nat) : Int) = 42 from rfl] at hdy
  clear he hd
  go_wp2_with fail
  refine hsz.mono ?_
  rintro e w4' ⟨rfl, rfl⟩
  clear hsz
  go_wp2_with fail
  refine hdy.mono ?_
  rintro e w5 ⟨rfl, k5⟩
  clear hdy
  have K5 := K4.trans' k5
  have hcr := lcrash_any w5 F2 g vA vB vP2 q2 j2 99 (hL2.keep (k5.old _)) (by omega) (by omega) (by omega) (crashJ_len hL2.good 99)
  rw [HX.out.2.2.2.1] at hcr
  go_wp2_with fail
  refine hcr.mono ?_
  rintro e w6 ⟨vA6, vB6, rfl, hA6, hB6, _, k6⟩
  clear hcr
  simp only at hA6 hB6
  obtain ⟨A6, c6, rfl, hc6, _⟩ := hA6.slice
  obtain ⟨B6, d6, rfl, hd6, _⟩ := hB6.slice
  have K6 := K5.trans' k6
  obtain ⟨W7, hW7⟩ : ∃ W, W = w6.alloc (.cells #[.slice A6 eb.length c6, .slice B6 0 d6] 24) := ⟨_, rfl⟩
  have k7 : Old w6 W7 := by rw [hW7]; exact (Keeps.refl _ _).alloc _
  have hb7 : W7.heap[w6.heap.size]? = some (.cells #[.slice A6 eb.length c6, .slice B6 0 d6] 24 (0, 0)) := by rw [hW7]; exact heap_alloc_new _ _
  simp only [List.length_nil]
  go_upto_region 7 with fail
  rw [← hW7]
  clear hW7
  have k7d : Old w6 W7.drew := k7.drew
  refine wp_region_tree (fun w' => w'.heap[w6.heap.size]? = some (.cells #[.slice A6 eb.length c6, .slice B6 0 d6] 24 (0, 0))) 11
    (.take 0 (.take 1 (.one 2 (.one 3 (.take 4 (.take 5 (.take 6 (.take 7 (.take 8 (.take 9 (.take 10 .tail))))))))))) (by kernel_rfl) (by kernel_rfl) hb7 ?_
  iterate 2 (refine pt_take (v := ?_) (by rfl) (by rfl) (fun w' hS => ?_) ?_; rotate_left 1; (have s0 : w'.cell? ⟨w6.heap.size, 0, none⟩ = some (.slice A6 eb.length c6) := cell_of_heap hS; have s1 : w'.cell? ⟨w6.heap.size, 1, none⟩ = some (.slice B6 0 d6) := cell_of_heap hS; clear hS; go_simp <;> (try with_reducible rfl)); (simp only [Act.put, List.setIfInBounds_toArray, List.set_cons_zero, List.set_cons_succ]))
  refine pt_one (by rfl) (loudly_of (by rfl) (fun K hK => ?_))
  go_wp2_with (go_at_call 55; refine (HX.out.1 W7.drew).mono ?_)
  rintro e w8 ⟨v8, rfl, hv8, k8⟩
  replace k8 : Old W7 w8 := k8.ofDrew
  obtain ⟨A8, c8, rfl, _, _⟩ := hv8.slice
  refine hK _ _ (k8.heap hb7 trivial) ?_
  clear hK K
  have hsm := same_any w8 _ _ A6 A8 c6 c8 eb eb ((hA6.bts).keep ((k7.trans' k8).old _)) hv8.bts
  rw [decide_eq_true (show eb = eb from rfl)] at hsm
  refine pt_one (by rfl) (loudly_of (by rfl) (fun K hK => ?_))
  go_wp2_with (go_at_call 48; refine hsm.mono ?_)
  rintro e w9 ⟨rfl, n9, hw9⟩
  have k9 : Old w8 w9 := by rw [← hw9]; exact (Keeps.refl _ _).drewN _
  clear hw9 hsm
  refine hK _ _ ((k8.trans' k9).heap hb7 trivial) ?_
  clear hK K
  iterate 7 (refine pt_take (v := ?_) (by rfl) (by rfl) (fun w' hS => ?_) ?_; rotate_left 1; (have s0 : w'.cell? ⟨w6.heap.size, 0, none⟩ = some (.slice A6 eb.length c6) := cell_of_heap hS; have s1 : w'.cell? ⟨w6.heap.size, 1, none⟩ = some (.slice B6 0 d6) := cell_of_heap hS; clear hS; go_simp <;> (try with_reducible rfl)); (simp only [Act.put, List.setIfInBounds_toArray, List.set_cons_zero, List.set_cons_succ]))
  refine pt_tail (by rfl) ?_
  go_wp2
  refine NoPanic.normal ?_
  have k79 := (k7.trans' k8).trans' k9
  have hb9 := (k8.trans' k9).heap hb7 trivial
  have t0 : w9.cell? ⟨w6.heap.size, 0, none⟩ = some (.slice A6 eb.length c6) := cell_of_heap hb9
  have t1 : w9.cell? ⟨w6.heap.size, 1, none⟩ = some (.slice B6 0 d6) := cell_of_heap hb9
  have K9 := K6.trans' k79
  have hop := lopen_any w9 _ A6 B6 eb.length 0 c6 d6 eb [] (hA6.bts.keep (k79.old _)) (Bts.nil _ _ _) rfl rfl hc6 (Nat.zero_le _) (hT.keep (K9.old (fun _ => True)) trivial)
  rw [HX.out.2.2.2.2] at hop
  clear hA6 hB6 hb7 hb9
  go_wp2_with fail
  refine hop.mono ?_
  rintro e w10 ⟨F3, g3, vA3, vB3, vP3, q3, L3, ql3, rfl, hL3, hF3, hql3, hoL3, k10⟩
  clear hop
  have hlen3 : ql3.length = 2 := by rw [← List.length_map (f := (·.1)), hql3]; rfl
  obtain ⟨A3, c3, rfl, _, hR3⟩ := hoL3.rcs (by rw [hlen3]; decide)
  rw [hql3] at hR3
  rw [hlen3]
  have K10 := K9.trans' k10
  obtain ⟨W11, hW11⟩ : ∃ W, W = w10.alloc (.cells #[Value.int .u8 97, .int .u8 98] 5) := ⟨_, rfl⟩
  obtain ⟨W12, hW12⟩ : ∃ W, W = W11.alloc (.cells #[.slice (some ⟨w10.heap.size, 0, none⟩) 2 2, .slice none 0 0] 22) := ⟨_, rfl⟩
  have k11 : Old w10 W11 := by rw [hW11]; exact (Keeps.refl _ _).alloc _
  have k12 : Old W11 W12 := by rw [hW12]; exact (Keeps.refl _ _).alloc _
  have hb11 : W11.heap[w10.heap.size]? = some (.cells (([97, 98] : List UInt8).map bv).toArray 5 (0, 0)) := by rw [hW11]; exact heap_alloc_new _ _
  have hb12 : W12.heap[W11.heap.size]? = some (.cells #[.slice (some ⟨w10.heap.size, 0, none⟩) 2 2, .slice none 0 0] 22 (0, 0)) := by rw [hW12]; exact heap_alloc_new _ _
  have hbt := (Bts.of_block (k12.heap hb11 trivial) (bs := [97, 98]) (by decide)).mono (T := fun _ => True) fun _ _ _ => trivial
  have hrc : Rcs (fun _ => True) W12 (some ⟨W11.heap.size, 0, none⟩) [[97, 98], []] := ⟨by decide, fun _ => ⟨W11.heap.size, 0, rfl, trivial, fun i hi => by
    match i, hi with
    | 0, _ => exact ⟨_, _, cell_of_heap hb12, Nat.le_refl _, hbt⟩
    | 1, _ => exact ⟨_, _, cell_of_heap hb12, Nat.le_refl _, Bts.nil _ _ _⟩⟩⟩
  have hls := lists_any W12 _ _ A3 (some ⟨W11.heap.size, 0, none⟩) c3 2 [[97, 98], []] [[97, 98], []] (hR3.keep ((k11.trans' k12).old _)) hrc
  rw [decide_eq_true (show ([[97, 98], []] : List (List UInt8)) = [[97, 98], []] from rfl)] at hls
  have hz11 : W11.heap.size = w10.heap.size + 1 := by rw [hW11]; simp
  rw [hz11] at hls
  clear hb11 hb12 hbt hrc hR3 hz11
  go_wp2_with fail
  rw [hW11] at hW12
  rw [← hW12]
  clear hW12
  refine hls.mono ?_
  rintro e w13 ⟨rfl, n13, hw13⟩
  have k13 : Old W12 w13 := by rw [← hw13]; exact (Keeps.refl _ _).drewN _
  clear hw13
  go_wp2
  go_ret
  exact ⟨rfl, ((K10.trans' k11).trans' k12).trans' k13⟩

theorem first_any (w : World) (hT : Tab w) : Calls Tryd.prog 18 #[] w fun e w' => e = .returned (.bool true) ∧ Old w w' :=
  first_walk w hT exJ0 exJ1 exJ2 _ exB ex_open ex_app1 ex_app2 rfl ex_dirty ex_crash ex_back example_any (by decide) (by decide) (by decide)
end Go.Proofs.YtdpaaoeipconcaaDoor
