/- weftlaw12.JournalOpens: of any disk: the error, the records, and how the journal stands then. Conditions: the disk can be read, the table lies. -/
import Derived.Test.YtdpaaoeipconcaaDoorJFirst
namespace Go.Proofs.YtdpaaoeipconcaaDoor
open Go.RowKit

theorem open_down {d : Dk} {j : Jn} {recs : List (List UInt8)} (h : openJ d = some (j, recs)) : (j.dA, j.dB) = d ∧ j.ws.length ≤ 1 := by
  unfold openJ at h
  simp only at h
  split at h
  · simp at h
  · split at h
    · split at h
      · simp at h
      · injection h with h
        injection h with h1 h2
        subst h1
        exact ⟨rfl, Nat.le_refl _⟩
    · split at h
      · injection h with h
        injection h with h1 h2
        subst h1
        exact ⟨rfl, Nat.zero_le _⟩
      · injection h with h
        injection h with h1 h2
        subst h1
        exact ⟨rfl, Nat.zero_le _⟩

set_option maxRecDepth 10000 in
set_option maxHeartbeats 4000000 in
theorem opens_any (w : World) (S : Nat → Prop) (A B : Option Addr) (n m c d : Nat) (xs ys : List UInt8) (ha : Bts S w A xs) (hb : Bts S w B ys) (hn : n = xs.length) (hm : m = ys.length) (hc : n ≤ c) (hd : m ≤ d) (hT : Tab w) :
    Calls Tryd.prog 3 #[.agg #[.slice A n c, .slice B m d]] w fun e w' => e = .returned (.bool true) ∧ Old w w' := by
  obtain ⟨W0, hW0⟩ : ∃ W, W = w.alloc (.cells #[.slice A n c, .slice B m d] 24) := ⟨_, rfl⟩
  have k0 : Old w W0 := by rw [hW0]; exact (Keeps.refl _ _).alloc _
  have hb0 : W0.heap[w.heap.size]? = some (.cells #[.slice A n c, .slice B m d] 24 (0, 0)) := by rw [hW0]; exact heap_alloc_new _ _
  obtain ⟨W1, hW1⟩ : ∃ W, W = W0.alloc (.cells #[.pointer none, .pointer none] 29) := ⟨_, rfl⟩
  have k1 : Old W0 W1 := by rw [hW1]; exact (Keeps.refl _ _).alloc _
  have hp1 : W1.heap[W0.heap.size]? = some (.cells #[.pointer none, .pointer none] 29 (0, 0)) := by rw [hW1]; exact heap_alloc_new _ _
  have hT1 := hT.keep ((k0.trans' k1).old (fun _ => True)) trivial
  have hfi := first_any W1 hT1
  have HN := hid hn
  have HM := hid hm
  clear hn hm
  have z0 := k0.size
  have zb := lt_of_heap hb0
  go_enter Tryd.func3, Tryd.ntmps3
  go_upto_region 1 with fail
  rw [← hW0]
  clear hW0
  go_upto_region 2 with fail
  rw [← hW1]
  clear hW1
  go_wp2_with fail
  refine hfi.mono ?_
  rintro e w2 ⟨rfl, k2⟩
  clear hfi
  have K02 := k1.trans' k2
  have hb2 := K02.heap hb0 trivial
  have hp2 := k2.heap hp1 trivial
  have b0 : w2.cell? ⟨w.heap.size, 0, none⟩ = some (.slice A n c) := cell_of_heap hb2
  have b1 : w2.cell? ⟨w.heap.size, 1, none⟩ = some (.slice B m d) := cell_of_heap hb2
  have K2 := k0.trans' K02
  have hpo := popen_any w2 S W0.heap.size _ _ A B n m c d xs ys hp2 (ha.keep (K2.old _)) (hb.keep (K2.old _)) HN.out HM.out hc hd (hT.keep (K2.old (fun _ => True)) trivial)
  go_wp2_with fail
  refine hpo.mono ?_
  rintro e w4 ⟨rfl, H, hP, hH, k4⟩
  clear hpo b0 b1
  have hb4 := k4.heap hb2 (by omega)
  have K4 : Old w w4 := K2.trans k4 fun k hk _ => by show k ≠ W0.heap.size; omega
  obtain ⟨_, _, hP⟩ := hP
  cases ho : openJ (xs, ys) with
  | none =>
    rw [ho] at hP
    have q0 : w4.cell? ⟨W0.heap.size, 0, none⟩ = some (.pointer none) := cell_of_heap hP
    go_wp2
    go_ret
    exact ⟨rfl, K4⟩
  | some jr =>
    obtain ⟨j, recs⟩ := jr
    rw [ho] at hP
    obtain ⟨F, G, gl, gm, vA, vB, vP, q, vA', vB', vP', q', hp4, hL, hR, _, _, _⟩ := hP
    obtain ⟨hdn, hwl1⟩ := open_down ho
    have hwl : j.ws.length ≤ 4000000000000 := by omega
    have hGd := hL.good
    have hdl := dirtyN_le j.ws fun x hx => by have := hGd.wl x hx; omega
    have hc0 : ∀ W, Old w4 W → Calls Tryd.prog 25 #[.pointer (some ⟨gl, 0, none⟩), .int .i64 0] W (PostDisk W (xs, ys)) := fun W hW => by
      have h := lcrash_any W F gl vA vB vP q j 0 (hL.keep (hW.old _)) (by omega) (by omega) hwl (crashJ_len hGd 0)
      rwa [show crashJ j 0 = (xs, ys) from (crashD_stop _ _ _ (by omega)).trans hdn] at h
    have hcn : ∀ W, Old w4 W → Calls Tryd.prog 25 #[.pointer (some ⟨gl, 0, none⟩), .int .i64 (dirtyN j.ws : Nat)] W (PostDisk W (crashJ j (dirtyN j.ws : Nat))) := fun W hW =>
      lcrash_any W F gl vA vB vP q j _ (hL.keep (hW.old _)) (by omega) (by omega) hwl (crashJ_len hGd _)
    have hrn : ∀ W, Old w4 W → Calls Tryd.prog 26 #[.pointer (some ⟨gm, 0, none⟩), .int .i64 (dirtyN j.ws : Nat)] W (PostDisk W (crashJ j (dirtyN j.ws : Nat))) := fun W hW =>
      rcrash_any W G gm vA' vB' vP' q' j _ (hR.keep (hW.old _)) (by omega) (by omega) hwl
    have hd0 : ∀ W, Old w4 W → ∀ (T : Nat → Prop) (A6 B6 : Option Addr) (c6 d6 : Nat), Bts T W A6 xs → Bts T W B6 ys → Calls Tryd.prog 24 #[.agg #[.slice A6 xs.length c6, .slice B6 ys.length d6], .agg #[.slice A n c, .slice B m d]] W fun e w' => e = .returned (.bool true) ∧ Old W w' := fun W hW T A6 B6 c6 d6 h1 h2 => by
      have h := disks_any W T S A6 B6 A B _ _ n m c6 d6 c d xs ys xs ys h1 h2 (ha.keep ((K4.trans' hW).old _)) (hb.keep ((K4.trans' hW).old _)) rfl rfl HN.out HM.out
      rwa [decide_eq_true (show (xs, ys) = (xs, ys) from rfl)] at h
    have hrd := rdirty_any hR hwl
    have hld : ∀ W, Old w4 W → Calls Tryd.prog 23 #[.pointer (some ⟨gl, 0, none⟩)] W fun e w' => e = .returned (.int .i64 (dirtyN j.ws : Nat)) ∧ Old W w' := fun W hW => ldirty_any (hL.keep (hW.old _)) hwl
    have q0 : w4.cell? ⟨W0.heap.size, 0, none⟩ = some (.pointer (some ⟨gl, 0, none⟩)) := cell_of_heap hp4
    have q1 : w4.cell? ⟨W0.heap.size, 1, none⟩ = some (.pointer (some ⟨gm, 0, none⟩)) := cell_of_heap hp4
    have hend := hGd.end_
    clear hdl hwl1 hdn ho
    generalize dirtyN j.ws = dn at *
    go_wp2_with fail
    refine hrd.mono ?_
    rintro e w4' ⟨rfl, rfl⟩
    clear hrd
    go_upto_region 7 with fail
    have kd : Old w4 w4.drew := (Keeps.refl _ _).drew
    clear q0 q1
    refine wp_region_tree (fun w' => w'.heap[W0.heap.size]? = some (.cells #[.pointer (some ⟨gl, 0, none⟩), .pointer (some ⟨gm, 0, none⟩)] 29 (0, 0)) ∧ w'.heap[w.heap.size]? = some (.cells #[.slice A n c, .slice B m d] 24 (0, 0))) 45
      (.take 0 (.take 1 (.take 2 (.take 3 (.take 5 (.take 6 (.take 7 (.take 8 (.one 4 (.one 9 (.take 10 (.take 11 (.take 12 (.take 13 (.take 14 (.take 15 (.take 17 (.one 16 (.take 18 (.take 19 (.take 20 (.take 21 (.take 22 (.take 23 (.take 24 (.take 26 (.one 25 (.one 27 (.take 28 (.take 29 (.take 30 (.take 31 (.take 32 (.take 33 (.take 34 (.take 36 (.take 37 (.take 38 (.take 39 (.take 40 (.one 35 (.one 41 (.one 42 (.take 43 (.take 44 .tail))))))))))))))))))))))))))))))))))))))))))))) (by kernel_rfl) (by kernel_rfl) ⟨hp4, hb4⟩ ?_
    iterate 8 (refine pt_take (v := ?_) (by rfl) (by first | rfl | kernel_rfl) (fun w' hS => ?_) ?_; rotate_left 1; (have s0 : w'.cell? ⟨W0.heap.size, 0, none⟩ = some (.pointer (some ⟨gl, 0, none⟩)) := cell_of_heap hS.1; have s1 : w'.cell? ⟨W0.heap.size, 1, none⟩ = some (.pointer (some ⟨gm, 0, none⟩)) := cell_of_heap hS.1; have s2 : w'.cell? ⟨w.heap.size, 0, none⟩ = some (.slice A n c) := cell_of_heap hS.2; have s3 : w'.cell? ⟨w.heap.size, 1, none⟩ = some (.slice B m d) := cell_of_heap hS.2; clear hS; go_simp <;> (try with_reducible rfl)); (simp only [Act.put, List.setIfInBounds_toArray, List.set_cons_zero, List.set_cons_succ]))
    refine pt_one (by rfl) (loudly_of (by first | rfl | kernel_rfl) (fun K hK => ?_))
    go_wp2_with (go_at_call 21; refine (lsize_any (hL.keep (kd.old _))).mono ?_)
    rintro e w5 ⟨rfl, rfl⟩
    refine hK _ _ ⟨(kd).heap hp4 trivial, (kd).heap hb4 trivial⟩ ?_
    clear hK K
    refine pt_one (by rfl) (loudly_of (by first | rfl | kernel_rfl) (fun K hK => ?_))
    go_wp2_with (go_at_call 22; refine (rsize_any (hR.keep (kd.old _))).mono ?_)
    rintro e w5 ⟨rfl, rfl⟩
    refine hK _ _ ⟨(kd).heap hp4 trivial, (kd).heap hb4 trivial⟩ ?_
    clear hK K
    iterate 7 (refine pt_take (v := ?_) (by rfl) (by first | rfl | kernel_rfl) (fun w' hS => ?_) ?_; rotate_left 1; (have s0 : w'.cell? ⟨W0.heap.size, 0, none⟩ = some (.pointer (some ⟨gl, 0, none⟩)) := cell_of_heap hS.1; have s1 : w'.cell? ⟨W0.heap.size, 1, none⟩ = some (.pointer (some ⟨gm, 0, none⟩)) := cell_of_heap hS.1; have s2 : w'.cell? ⟨w.heap.size, 0, none⟩ = some (.slice A n c) := cell_of_heap hS.2; have s3 : w'.cell? ⟨w.heap.size, 1, none⟩ = some (.slice B m d) := cell_of_heap hS.2; clear hS; go_simp <;> (try with_reducible rfl)); (simp only [Act.put, List.setIfInBounds_toArray, List.set_cons_zero, List.set_cons_succ]))
    refine pt_one (by rfl) (loudly_of (by first | rfl | kernel_rfl) (fun K hK => ?_))
    go_wp2_with (go_at_call 23; refine (hld w4.drew kd).mono ?_)
    first
    | (rintro e w5 ⟨rfl, k5⟩; have K5 : Old w4 w5 := kd.trans' k5)
    | (rintro e w5 rfl k5; have K5 : Old w4 w5 := kd.trans' k5)
    refine hK _ _ ⟨(K5).heap hp4 trivial, (K5).heap hb4 trivial⟩ ?_
    clear hK K
    iterate 8 (refine pt_take (v := ?_) (by rfl) (by first | rfl | kernel_rfl) (fun w' hS => ?_) ?_; rotate_left 1; (have s0 : w'.cell? ⟨W0.heap.size, 0, none⟩ = some (.pointer (some ⟨gl, 0, none⟩)) := cell_of_heap hS.1; have s1 : w'.cell? ⟨W0.heap.size, 1, none⟩ = some (.pointer (some ⟨gm, 0, none⟩)) := cell_of_heap hS.1; have s2 : w'.cell? ⟨w.heap.size, 0, none⟩ = some (.slice A n c) := cell_of_heap hS.2; have s3 : w'.cell? ⟨w.heap.size, 1, none⟩ = some (.slice B m d) := cell_of_heap hS.2; clear hS; go_simp <;> (try with_reducible rfl)); (simp only [Act.put, List.setIfInBounds_toArray, List.set_cons_zero, List.set_cons_succ]))
    refine pt_one (by rfl) (loudly_of (by first | rfl | kernel_rfl) (fun K hK => ?_))
    go_wp2_with (go_at_call 25; refine (hc0 w5 K5).mono ?_)
    rintro e w6 ⟨vA6, vB6, rfl, hA6, hB6, _, k6⟩
    obtain ⟨A6, c6, rfl, _, _⟩ := hA6.slice
    obtain ⟨B6, d6, rfl, _, _⟩ := hB6.slice
    simp only at hA6 hB6
    have K6 := K5.trans' k6
    refine hK _ _ ⟨(K6).heap hp4 trivial, (K6).heap hb4 trivial⟩ ?_
    clear hK K
    refine pt_one (by rfl) (loudly_of (by first | rfl | kernel_rfl) (fun K hK => ?_))
    go_wp2_with (go_at_call 24; refine (hd0 w6 K6 _ _ _ _ _ hA6.bts hB6.bts).mono ?_)
    first
    | (rintro e w7 ⟨rfl, k7⟩; have K7 := K6.trans' k7)
    | (rintro e w7 rfl k7; have K7 := K6.trans' k7)
    refine hK _ _ ⟨(K7).heap hp4 trivial, (K7).heap hb4 trivial⟩ ?_
    clear hK K
    iterate 12 (refine pt_take (v := ?_) (by rfl) (by first | rfl | kernel_rfl) (fun w' hS => ?_) ?_; rotate_left 1; (have s0 : w'.cell? ⟨W0.heap.size, 0, none⟩ = some (.pointer (some ⟨gl, 0, none⟩)) := cell_of_heap hS.1; have s1 : w'.cell? ⟨W0.heap.size, 1, none⟩ = some (.pointer (some ⟨gm, 0, none⟩)) := cell_of_heap hS.1; have s2 : w'.cell? ⟨w.heap.size, 0, none⟩ = some (.slice A n c) := cell_of_heap hS.2; have s3 : w'.cell? ⟨w.heap.size, 1, none⟩ = some (.slice B m d) := cell_of_heap hS.2; clear hS; go_simp <;> (try with_reducible rfl)); (simp only [Act.put, List.setIfInBounds_toArray, List.set_cons_zero, List.set_cons_succ]))
    refine pt_one (by rfl) (loudly_of (by first | rfl | kernel_rfl) (fun K hK => ?_))
    go_wp2_with (go_at_call 25; refine (hcn w7 K7).mono ?_)
    rintro e w8 ⟨vA8, vB8, rfl, hA8, hB8, _, k8⟩
    obtain ⟨A8, c8, rfl, _, _⟩ := hA8.slice
    obtain ⟨B8, d8, rfl, _, _⟩ := hB8.slice
    have K8 := K7.trans' k8
    refine hK _ _ ⟨(K8).heap hp4 trivial, (K8).heap hb4 trivial⟩ ?_
    clear hK K
    refine pt_one (by rfl) (loudly_of (by first | rfl | kernel_rfl) (fun K hK => ?_))
    go_wp2_with (go_at_call 26; refine (hrn w8 K8).mono ?_)
    rintro e w9 ⟨vA9, vB9, rfl, hA9, hB9, _, k9⟩
    obtain ⟨A9, c9, rfl, _, _⟩ := hA9.slice
    obtain ⟨B9, d9, rfl, _, _⟩ := hB9.slice
    have K9 := K8.trans' k9
    refine hK _ _ ⟨(K9).heap hp4 trivial, (K9).heap hb4 trivial⟩ ?_
    clear hK K
    refine pt_one (by rfl) (loudly_of (by first | rfl | kernel_rfl) (fun K hK => ?_))
    go_wp2_with (go_at_call 24; refine (disks_any w9 (fun k => w7.heap.size ≤ k) (fun k => w8.heap.size ≤ k) A8 B8 A9 B9 _ _ _ _ c8 d8 c9 d9 _ _ _ _ (hA8.bts.keep (k9.old _)) (hB8.bts.keep (k9.old _)) hA9.bts hB9.bts rfl rfl rfl rfl).mono ?_)
    first
    | (rintro e w10 ⟨rfl, k10⟩; have K10 := K9.trans' k10)
    | (rintro e w10 rfl k10; have K10 := K9.trans' k10)
    refine hK _ _ ⟨(K10).heap hp4 trivial, (K10).heap hb4 trivial⟩ ?_
    clear hK K
    iterate 2 (refine pt_take (v := ?_) (by rfl) (by first | rfl | kernel_rfl) (fun w' hS => ?_) ?_; rotate_left 1; (have s0 : w'.cell? ⟨W0.heap.size, 0, none⟩ = some (.pointer (some ⟨gl, 0, none⟩)) := cell_of_heap hS.1; have s1 : w'.cell? ⟨W0.heap.size, 1, none⟩ = some (.pointer (some ⟨gm, 0, none⟩)) := cell_of_heap hS.1; have s2 : w'.cell? ⟨w.heap.size, 0, none⟩ = some (.slice A n c) := cell_of_heap hS.2; have s3 : w'.cell? ⟨w.heap.size, 1, none⟩ = some (.slice B m d) := cell_of_heap hS.2; clear hS; go_simp <;> (try with_reducible rfl)); (simp only [Act.put, List.setIfInBounds_toArray, List.set_cons_zero, List.set_cons_succ]))
    refine pt_tail (by rfl) ?_
    go_wp2
    refine NoPanic.normal ?_
    go_wp2
    go_ret
    exact ⟨rfl, K4.trans' K10⟩
end Go.Proofs.YtdpaaoeipconcaaDoor
