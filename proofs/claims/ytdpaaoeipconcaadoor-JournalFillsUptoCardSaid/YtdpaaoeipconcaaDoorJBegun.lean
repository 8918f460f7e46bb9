/- weftlaw12.begun with its tale. Conditions: the table lies. -/
import Derived.Test.YtdpaaoeipconcaaDoorJTell
namespace Go.Proofs.YtdpaaoeipconcaaDoor
open Go.RowKit

def PostBegun2 (w : World) (e : Ending) (w' : World) : Prop :=
  ∃ g t, e = .returned (.tuple #[.pointer (some ⟨g, 0, none⟩), .pointer (some ⟨t, 0, none⟩)]) ∧ TJs 1 (fun k => w.heap.size ≤ k) w' g t exJ0 [] [] [] ∧ Old w w'

theorem rec_ex : RecJ exJ0 [] [] [] := by
  obtain ⟨j, h1, h2⟩ := rec_begin
  rw [ex_open] at h1
  injection h1 with h1
  injection h1 with h1 _
  rw [h1]
  exact h2

set_option maxHeartbeats 2000000 in
theorem begun2_any (w : World) (hT : Tab w) : Calls Tryd.prog 28 #[] w (PostBegun2 w) := by
  have ho := lopen_any w (fun _ => False) none none 0 0 0 0 [] [] (Bts.nil _ _ _) (Bts.nil _ _ _) rfl rfl (Nat.le_refl _) (Nat.le_refl _) hT
  rw [ex_open] at ho
  go_enter Tryd.func28, Tryd.ntmps28
  go_wp2_with fail
  refine ho.mono ?_
  rintro e w1 ⟨F, g, vA, vB, vP, q, L, ql, rfl, hL, hF, hql, hoL, k1⟩
  clear ho hql
  obtain ⟨AL, cL, rfl, _, _⟩ := own_slice hoL.row
  clear hoL
  have z1 := k1.size
  obtain ⟨W1, hW1⟩ : ∃ W, W = w1.alloc (.cells #[.slice none 0 0] 35) := ⟨_, rfl⟩
  obtain ⟨W2, hW2⟩ : ∃ W, W = W1.alloc (.cells #[.slice (some ⟨w1.heap.size, 0, none⟩) 1 1, .slice none 0 0, .slice none 0 0, .int .i64 16, .int .i64 16] 60) := ⟨_, rfl⟩
  have k12 : Old W1 W2 := by rw [hW2]; exact (Keeps.refl _ _).alloc _
  have hb1 : W2.heap[w1.heap.size]? = some (.cells #[.slice none 0 0] 35 (0, 0)) := k12.heap (by rw [hW1]; exact heap_alloc_new _ _) trivial
  have k2 : Old w1 W2 := by rw [hW2, hW1]; exact ((Keeps.refl _ _).alloc _).alloc _
  have hs1 : W1.heap.size = w1.heap.size + 1 := by rw [hW1]; simp
  have hs2 : W2.heap.size = w1.heap.size + 2 := by rw [hW2]; simp [hs1]
  have hb2 : W2.heap[w1.heap.size + 1]? = some (.cells #[.slice (some ⟨w1.heap.size, 0, none⟩) 1 1, .slice none 0 0, .slice none 0 0, .int .i64 16, .int .i64 16] 60 (0, 0)) := by rw [hW2, ← hs1]; exact heap_alloc_new _ _
  go_upto_region 3 with fail
  rw [hW1] at hW2
  rw [← hW2]
  clear hW2 hW1
  obtain ⟨W3, hW3⟩ : ∃ W, W = W2.alloc (.cells #[.int .i64 0, .int .i64 0, .int .i64 0] 62) := ⟨_, rfl⟩
  have k3 : Old W2 W3 := by rw [hW3]; exact (Keeps.refl _ _).alloc _
  have hb3 := k3.heap hb2 trivial
  have hb1' := k3.heap hb1 trivial
  have hp3 : W3.heap[W2.heap.size]? = some (.cells #[.int .i64 0, .int .i64 0, .int .i64 0] 62 (0, 0)) := by rw [hW3]; exact heap_alloc_new _ _
  have c1 : W3.cell? ⟨w1.heap.size + 1, 1, none⟩ = some (.slice none 0 0) := cell_of_heap hb3
  have cf : ∀ i, W3.frozen? ⟨w1.heap.size + 1, i, none⟩ = false := fun i => frozen_of_heap hb3
  have z2 := k2.size
  have z3 := k3.size
  have z23 : W3.heap.size = W2.heap.size + 1 := by rw [hW3]; simp
  have KS : Keeps (· ≠ w1.heap.size + 1) W3 (W3.setCell ⟨w1.heap.size + 1, 1, none⟩ (.slice (some ⟨W2.heap.size, 0, none⟩) 1 1)) := (Keeps.refl _ _).setCell (fun _ h => h rfl) _
  have hLt := hL.lt
  have ht : TaleM (fun k => k = w1.heap.size ∨ k = w1.heap.size + 1 ∨ k = W2.heap.size) (W3.setCell ⟨w1.heap.size + 1, 1, none⟩ (.slice (some ⟨W2.heap.size, 0, none⟩) 1 1)) (w1.heap.size + 1) (.slice (some ⟨w1.heap.size, 0, none⟩) 1 1) (.slice (some ⟨W2.heap.size, 0, none⟩) 1 1) (.slice none 0 0) [] [.slice none 0 0] [⟨0, 0, 0⟩] [] 16 16 := by
    refine ⟨by rw [heap_setCell hb3]; rfl, ⟨rfl, .inr ⟨w1.heap.size, 1, _, rfl, Nat.zero_le _, KS.heap hb1' (by show w1.heap.size ≠ _; omega), Nat.le_refl _, by decide, rfl, rfl⟩⟩, fun k hk => by left; simpa [Value.ownBlock] using hk.symm,
      ⟨rfl, .inr ⟨W2.heap.size, 1, _, rfl, Nat.zero_le _, KS.heap hp3 (by show W2.heap.size ≠ _; omega), Nat.le_refl _, by decide, rfl, rfl⟩⟩, fun k hk => by right; right; simpa [Value.ownBlock] using hk.symm, OwnR.nil _ _, by simp, by right; left; rfl, fun k hk => ?_⟩
    have := KS.size
    rcases hk with rfl | rfl | rfl <;> omega
  have hn := (hL.keep ((k2.trans' k3).old _)).keep (KS.mono fun k _ h => by have := hLt k h; show k ≠ _; omega)
  have R := hid (show TJs 1 (fun k => w.heap.size ≤ k) (W3.setCell ⟨w1.heap.size + 1, 1, none⟩ (.slice (some ⟨W2.heap.size, 0, none⟩) 1 1)) g (w1.heap.size + 1) exJ0 [] [] [] from
    ⟨F, _, vA, vB, vP, q, _, _, _, [], [⟨0, 0, 0⟩], [], ⟨hn, ht, rfl, by
      refine (HistOK.nil _).push ?_
      exact ptOK_last (gi := []) (rq := []) rfl 0, fun k hk h => by
        have := hLt k hk
        rcases h with rfl | rfl | rfl <;> omega, rec_ex⟩, by simp [exJ0], by simp, by simp, fun k hk => hF k hk, fun k h => by rcases h with rfl | rfl | rfl <;> omega⟩)
  have KK := hid (((k1.trans' k2).trans' k3).trans KS fun k hk _ => by show k ≠ _; omega)
  clear KS ht hn
  have c1' : ∀ o : Obj, o = .cells #[.int .i64 0, .int .i64 0, .int .i64 0] 62 → (W2.alloc o).cell? ⟨w1.heap.size + 1, 1, none⟩ = some (.slice none 0 0) := fun o ho => by rw [ho, ← hW3]; exact c1
  have cf' : ∀ o : Obj, ∀ i, o = .cells #[.int .i64 0, .int .i64 0, .int .i64 0] 62 → (W2.alloc o).frozen? ⟨w1.heap.size + 1, i, none⟩ = false := fun o i ho => by rw [ho, ← hW3]; exact cf i
  have d1 := c1' _ rfl
  have df := fun i => cf' _ i rfl
  clear c1' cf' z23 hs1 hs2 hb1 hb2 hb3 hb1' hp3
  go_upto_region 4 with fail
  rw [← hW3]
  clear hW3
  go_wp2
  refine bodyPost_ret (v := .tuple #[.pointer (some ⟨g, 0, none⟩), .pointer (some ⟨w1.heap.size + 1, 0, none⟩)]) (by simp [results, Tryd.results28, go_sem]) rfl ⟨g, _, rfl, R.out, KK.out⟩
end Go.Proofs.YtdpaaoeipconcaaDoor
