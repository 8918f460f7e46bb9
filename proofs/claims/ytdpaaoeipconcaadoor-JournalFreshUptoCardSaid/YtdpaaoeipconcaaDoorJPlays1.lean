/- weftlaw12.Pair.plays of an Append, whatever the records beside it are. Conditions: as for plays. -/
import Derived.Test.YtdpaaoeipconcaaDoorJPlays
namespace Go.Proofs.YtdpaaoeipconcaaDoor
open Go.RowKit

set_option maxRecDepth 10000 in
set_option maxHeartbeats 8000000 in
theorem plays1_any (w : World) (H S : Nat → Prop) (p : Nat) (o : Option Jn) (n : Int) (A B : Option Addr) (c d m : Nat) (rec : List UInt8) (hP : PairAt H w p o) (hr : Bts S w A rec)
    (hS : ∀ k, S k → k < w.heap.size ∧ ¬ H k) (hT : Tab w) (hH0 : ¬ H 0) (hw : wsN o ≤ 2900000000000) :
    Calls Tryd.prog 36 #[.pointer (some ⟨p, 0, none⟩), .agg #[.int .i64 1, .slice A rec.length c, .slice B m d, .int .i64 n]] w (PostPlays H w p o) := by
  have k0 : Old w (w.alloc (.cells #[.int .i64 1, .slice A rec.length c, .slice B m d, .int .i64 n] 54)) := (Keeps.refl _ _).alloc _
  obtain ⟨W0, hW0⟩ : ∃ W, W = w.alloc (.cells #[.int .i64 1, .slice A rec.length c, .slice B m d, .int .i64 n] 54) := ⟨_, rfl⟩
  have hb0 : W0.heap[w.heap.size]? = some (.cells #[.int .i64 1, .slice A rec.length c, .slice B m d, .int .i64 n] 54 (0, 0)) := by rw [hW0]; exact heap_alloc_new _ _
  rw [← hW0] at k0
  have z0 := k0.size
  have hpos := hT.pos
  have b0 : W0.cell? ⟨w.heap.size, 0, none⟩ = some (.int .i64 1) := cell_of_heap hb0
  have bt0 : W0.cell? ⟨w.heap.size, 1, none⟩ = some (.slice A rec.length c) := cell_of_heap hb0
  have bt2 : W0.cell? ⟨w.heap.size, 2, none⟩ = some (.slice B m d) := cell_of_heap hb0
  have bt3 : W0.cell? ⟨w.heap.size, 3, none⟩ = some (.int .i64 n) := cell_of_heap hb0
  obtain ⟨hHp, hHlt, hP⟩ := hP
  have hpl := hHlt p hHp
  cases o with
  | none =>
    have hp0 := k0.heap hP trivial
    have q0 : W0.cell? ⟨p, 0, none⟩ = some (.pointer none) := cell_of_heap hp0
    go_enter Tryd.func36, Tryd.ntmps36
    go_upto_region 1 with fail
    rw [← hW0]
    clear hW0
    go_wp2
    go_ret
    exact ⟨rfl, H, none, ⟨hHp, fun k hk => by have := hHlt k hk; omega, hp0⟩, fun k hk => .inl hk, k0.old _, Nat.zero_le _⟩
  | some j =>
    obtain ⟨F, G, gl, gm, vA, vB, vP, q, vA', vB', vP', q', hp, hL, hR, hFG, hF, hG⟩ := hP
    have hwj : j.ws.length ≤ 2900000000000 := hw
    have hp0 := k0.heap hp trivial
    have q0 : W0.cell? ⟨p, 0, none⟩ = some (.pointer (some ⟨gl, 0, none⟩)) := cell_of_heap hp0
    have q1 : W0.cell? ⟨p, 1, none⟩ = some (.pointer (some ⟨gm, 0, none⟩)) := cell_of_heap hp0
    have hL0 := hL.keep (k0.old _)
    have hR0 := hR.keep (k0.old _)
    have hT0 := hT.keep (k0.old (fun _ => True)) trivial
    have nFp : ¬ F p := fun h => (hF p h).2 rfl
    have nFb : ¬ F w.heap.size := fun h => by have := hL.lt _ h; omega
    have nGp : ¬ G p := fun h => (hG p h).2 rfl
    have nGb : ¬ G w.heap.size := fun h => by have := hR.lt _ h; omega
    have nF0 : ¬ F 0 := fun h => hH0 (hF 0 h).1
    have kd : Old W0 W0.drew := (Keeps.refl _ _).drew
    have hSF : ∀ k, S k → ¬ F k := fun k hk hf => (hS k hk).2 (hF k hf).1
    have hGF : ∀ k, G k → ¬ F k := fun k hg hf => hFG k hf hg
    have hr0 := hr.keep (k0.old _)
    have hN : (appendJ j rec).2.ws.length ≤ wsN (some j) + 1 := by
      unfold appendJ wsN
      split
      · simp
      · split <;> simp
    have hap : Calls Tryd.prog 29 #[.pointer (some ⟨gl, 0, none⟩), .slice A rec.length c] W0.drew (PostL F W0.drew gl vA vB (appendJ j rec)) := append_any W0.drew F S gl vA vB vP q j A rec.length c rec (hL0.keep (kd.old _)) (hr0.keep (kd.old _)) rfl (hT0.keep (kd.old (fun _ => True)) trivial) (by omega)
    have hrp : ∀ W, RNet G W gm vA' vB' vP' q' j → Bts S W A rec → Calls Tryd.prog 63 #[.pointer (some ⟨gm, 0, none⟩), .slice A rec.length c] W (PostR G W gm vA' vB' (appendJ j rec)) := fun W h1 h2 => rappend_any W G S gm vA' vB' vP' q' j A rec.length c rec h1 h2 rfl (by omega)
    generalize appendJ j rec = r at *
    obtain ⟨er, j'⟩ := r
    go_enter Tryd.func36, Tryd.ntmps36
    go_upto_region 1 with fail
    rw [← hW0]
    clear hW0
    go_upto_region 5 with fail
    refine wp_region_tree (fun w' => w'.heap[p]? = some (.cells #[.pointer (some ⟨gl, 0, none⟩), .pointer (some ⟨gm, 0, none⟩)] 29 (0, 0)) ∧ w'.heap[w.heap.size]? = some (.cells #[.int .i64 1, .slice A rec.length c, .slice B m d, .int .i64 n] 54 (0, 0))) 8
      (.take 0 (.take 1 (.take 2 (.take 3 (.take 4 (.take 5 (.one 6 (.take 7 .tail)))))))) (by kernel_rfl) (by kernel_rfl) ⟨hp0, hb0⟩ ?_
    iterate 6 (refine pt_take (v := ?_) (by rfl) (by first | rfl | kernel_rfl) (fun w' hS => ?_) ?_; rotate_left 1; (have s0 : w'.cell? ⟨p, 0, none⟩ = some (.pointer (some ⟨gl, 0, none⟩)) := cell_of_heap hS.1; have s1 : w'.cell? ⟨p, 1, none⟩ = some (.pointer (some ⟨gm, 0, none⟩)) := cell_of_heap hS.1; have t0 : w'.cell? ⟨w.heap.size, 0, none⟩ = some (.int .i64 1) := cell_of_heap hS.2; have t1 : w'.cell? ⟨w.heap.size, 1, none⟩ = some (.slice A rec.length c) := cell_of_heap hS.2; have t2 : w'.cell? ⟨w.heap.size, 2, none⟩ = some (.slice B m d) := cell_of_heap hS.2; have t3 : w'.cell? ⟨w.heap.size, 3, none⟩ = some (.int .i64 n) := cell_of_heap hS.2; clear hS; go_simp <;> (try with_reducible rfl)); (simp only [Act.put, List.setIfInBounds_toArray, List.set_cons_zero, List.set_cons_succ]))
    refine pt_one (by rfl) (loudly_of (by first | rfl | kernel_rfl) (fun K hK => ?_))
    go_wp2_with (go_at_call 29; refine hap.mono ?_)
    rintro e w1 ⟨rfl, F1, vP1, q1, hL1, hF1, kL1⟩
    clear hap
    have hpb1 : w1.heap[p]? = some (.cells #[.pointer (some ⟨gl, 0, none⟩), .pointer (some ⟨gm, 0, none⟩)] 29 (0, 0)) ∧ w1.heap[w.heap.size]? = some (.cells #[.int .i64 1, .slice A rec.length c, .slice B m d, .int .i64 n] 54 (0, 0)) := ⟨kL1.heap hp0 nFp, kL1.heap hb0 nFb⟩
    refine hK _ _ hpb1 ?_
    clear hK K
    (refine pt_take (v := ?_) (by rfl) (by first | rfl | kernel_rfl) (fun w' hS => ?_) ?_; rotate_left 1; (have s0 : w'.cell? ⟨p, 0, none⟩ = some (.pointer (some ⟨gl, 0, none⟩)) := cell_of_heap hS.1; have s1 : w'.cell? ⟨p, 1, none⟩ = some (.pointer (some ⟨gm, 0, none⟩)) := cell_of_heap hS.1; have t0 : w'.cell? ⟨w.heap.size, 0, none⟩ = some (.int .i64 1) := cell_of_heap hS.2; have t1 : w'.cell? ⟨w.heap.size, 1, none⟩ = some (.slice A rec.length c) := cell_of_heap hS.2; have t2 : w'.cell? ⟨w.heap.size, 2, none⟩ = some (.slice B m d) := cell_of_heap hS.2; have t3 : w'.cell? ⟨w.heap.size, 3, none⟩ = some (.int .i64 n) := cell_of_heap hS.2; clear hS; go_simp <;> (try with_reducible rfl)); (simp only [Act.put, List.setIfInBounds_toArray, List.set_cons_zero, List.set_cons_succ]))
    refine pt_tail (by rfl) ?_
    go_wp2
    refine NoPanic.normal ?_
    go_upto_region 6 with fail
    have kd1 : Old w1 w1.drew := (Keeps.refl _ _).drew
    have hR1 := (hR0.keep (kd.old _)).keep (kL1.mono fun k _ h => hGF k h)
    have hr1 := (hr0.keep (kd.old _)).keep (kL1.mono fun k _ h => hSF k h)
    refine wp_region_tree (fun w' => w'.heap[p]? = some (.cells #[.pointer (some ⟨gl, 0, none⟩), .pointer (some ⟨gm, 0, none⟩)] 29 (0, 0)) ∧ w'.heap[w.heap.size]? = some (.cells #[.int .i64 1, .slice A rec.length c, .slice B m d, .int .i64 n] 54 (0, 0))) 8
      (.take 0 (.take 1 (.take 2 (.take 3 (.take 4 (.take 5 (.one 6 (.take 7 .tail)))))))) (by kernel_rfl) (by kernel_rfl) hpb1 ?_
    iterate 6 (refine pt_take (v := ?_) (by rfl) (by first | rfl | kernel_rfl) (fun w' hS => ?_) ?_; rotate_left 1; (have s0 : w'.cell? ⟨p, 0, none⟩ = some (.pointer (some ⟨gl, 0, none⟩)) := cell_of_heap hS.1; have s1 : w'.cell? ⟨p, 1, none⟩ = some (.pointer (some ⟨gm, 0, none⟩)) := cell_of_heap hS.1; have t0 : w'.cell? ⟨w.heap.size, 0, none⟩ = some (.int .i64 1) := cell_of_heap hS.2; have t1 : w'.cell? ⟨w.heap.size, 1, none⟩ = some (.slice A rec.length c) := cell_of_heap hS.2; have t2 : w'.cell? ⟨w.heap.size, 2, none⟩ = some (.slice B m d) := cell_of_heap hS.2; have t3 : w'.cell? ⟨w.heap.size, 3, none⟩ = some (.int .i64 n) := cell_of_heap hS.2; clear hS; go_simp <;> (try with_reducible rfl)); (simp only [Act.put, List.setIfInBounds_toArray, List.set_cons_zero, List.set_cons_succ]))
    refine pt_one (by rfl) (loudly_of (by first | rfl | kernel_rfl) (fun K hK => ?_))
    go_wp2_with (go_at_call 63; refine (hrp w1.drew (hR1.keep (kd1.old _)) (hr1.keep (kd1.old _))).mono ?_)
    rintro e w2 ⟨rfl, G2, vP2, q2, hR2, hG2, kR2⟩
    refine hK _ _ ⟨kR2.heap hpb1.1 nGp, kR2.heap hpb1.2 nGb⟩ ?_
    clear hK K
    (refine pt_take (v := ?_) (by rfl) (by first | rfl | kernel_rfl) (fun w' hS => ?_) ?_; rotate_left 1; (have s0 : w'.cell? ⟨p, 0, none⟩ = some (.pointer (some ⟨gl, 0, none⟩)) := cell_of_heap hS.1; have s1 : w'.cell? ⟨p, 1, none⟩ = some (.pointer (some ⟨gm, 0, none⟩)) := cell_of_heap hS.1; have t0 : w'.cell? ⟨w.heap.size, 0, none⟩ = some (.int .i64 1) := cell_of_heap hS.2; have t1 : w'.cell? ⟨w.heap.size, 1, none⟩ = some (.slice A rec.length c) := cell_of_heap hS.2; have t2 : w'.cell? ⟨w.heap.size, 2, none⟩ = some (.slice B m d) := cell_of_heap hS.2; have t3 : w'.cell? ⟨w.heap.size, 3, none⟩ = some (.int .i64 n) := cell_of_heap hS.2; clear hS; go_simp <;> (try with_reducible rfl)); (simp only [Act.put, List.setIfInBounds_toArray, List.set_cons_zero, List.set_cons_succ]))
    refine pt_tail (by rfl) ?_
    go_wp2
    refine NoPanic.normal ?_
    go_wp2
    go_ret
    have := pair_join (o := some j) hp hHlt hHp hFG hF hG (k0.trans' kd) hL1 hF1 kL1 kd1 hR2 hG2 kR2 (Keeps.refl _ _) hN
    first
    | exact this
    | simpa using this
end Go.Proofs.YtdpaaoeipconcaaDoor
