/- under.clone: a packet with bytes of its own; nothing that was there is changed. Condition: the packet's bytes can be read. -/
import Derived.Test.YtgnndggbjipioaaAPk
namespace Go.Proofs.Ytgnndggbjipioaa
open Go.RowKit

def PostClone (w : World) (t : Int) (bs : List UInt8) (e : Ending) (w' : World) : Prop :=
  ∃ v, e = .returned (.agg #[.int .u32 t, v]) ∧ OwnB (fun k => w.heap.size ≤ k) w' v bs ∧ Old w w'

set_option maxHeartbeats 400000 in
theorem clone_any (w : World) (S : Nat → Prop) (t : Int) (A : Option Addr) (c : Nat) (bs : List UInt8) (hr : Bts S w A bs) :
    Calls Try.prog 52 #[.agg #[.int .u32 t, .slice A bs.length c]] w (PostClone w t bs) := by
  have hn := hr.1
  obtain ⟨i5, hi, hz0, hz1, hz2⟩ := info_parts info5
  have hmk := fun w => run_make (P := Try.prog) w 46 5 i5 (.int .u8 0) Try.underlying46 hi hz0 .i64 .i64 bs.length bs.length (by omega) (by omega) (by rw [hz2]; omega) (by omega)
  simp only [hz1, Nat.mul_one, Int.toNat_natCast, show (Value.int .u8 0).cells = #[.int .u8 0] from rfl] at hmk
  have hW : ∃ W, W = ((w.alloc (.cells #[.int .u32 t, .slice A bs.length c] 48)).alloc (.cells #[.int .u32 0, .slice none 0 0] 48)).alloc (.cells (madeCells #[.int .u8 0] bs.length) 5) := ⟨_, rfl⟩
  obtain ⟨W, hW⟩ := hW
  have kW : Old w W := by subst hW; exact (((Keeps.refl _ _).alloc _).alloc _).alloc _
  have hg : W.heap[w.heap.size + 1 + 1]? = some (.cells (List.replicate bs.length (Value.int .u8 0)).toArray 5 (0, 0)) := by
    subst hW
    have := heap_alloc_new ((w.alloc (.cells #[.int .u32 t, .slice A bs.length c] 48)).alloc (.cells #[.int .u32 0, .slice none 0 0] 48)) (.cells (madeCells #[.int .u8 0] bs.length) 5)
    simp only [World.size_alloc] at this
    rw [this, ← toList_madeCells_one]
  obtain ⟨w4, hcp, hb4, k4, hs4⟩ := run_copy_ex (P := Try.prog) W 46 46 3 5 1 (w.heap.size + 1 + 1) 0 bs.length bs.length (some ⟨w.heap.size + 1 + 1, 0, none⟩) A bs.length c _ 5 (bs.map bv) Try.underlying46
    (by rw [hi]; simp [hz1]) (by omega) hg (by simp) (fun _ => rfl) (fun h => by
      obtain ⟨ad, e, _, h⟩ := (hr.keep (kW.old S)).src (by simpa using h)
      exact ⟨ad, e, h⟩) (by simp) (bv_one bs)
  have hb4' : w4.heap[w.heap.size + 1 + 1]? = some (.cells (bs.map bv).toArray 5 (0, 0)) := by rw [hb4]; simp
  have ho : OwnB (fun k => k = w.heap.size + 1 + 1) w4 (.slice (some ⟨w.heap.size + 1 + 1, 0, none⟩) bs.length bs.length) bs :=
    ⟨⟨by simp, .inr ⟨w.heap.size + 1 + 1, bs.length, _, rfl, Nat.zero_le _, hb4', Nat.le_refl _, by unfold maxLen; omega, by simp, List.take_of_length_le (by simp)⟩⟩, by simp [Value.ownBlock], hn⟩
  have kk : Old w w4 := kW.trans k4 (fun k hk _ => by omega)
  have z4 : w4.heap.size = w.heap.size + 3 := by rw [hs4, hW]; simp
  have c0 : w4.heap[w.heap.size]? = some (.cells #[.int .u32 t, .slice A bs.length c] 48) := by
    refine k4.heap ?_ (by omega)
    subst hW
    rw [heap_alloc_old _ _ (by simp; omega), heap_alloc_old _ _ (by simp), heap_alloc_new]
  have c1 : w4.heap[w.heap.size + 1]? = some (.cells #[.int .u32 0, .slice none 0 0] 48) := by
    refine k4.heap ?_ (by omega)
    subst hW
    rw [heap_alloc_old _ _ (by simp), ← World.size_alloc w (.cells #[.int .u32 t, .slice A bs.length c] 48), heap_alloc_new]
  have d0 : w4.cell? ⟨w.heap.size, 0, none⟩ = some (.int .u32 t) := cell_of_heap c0
  have d1 : w4.cell? ⟨w.heap.size + 1, 0, none⟩ = some (.int .u32 0) := cell_of_heap c1
  have d2 : w4.cell? ⟨w.heap.size + 1, 1, none⟩ = some (.slice none 0 0) := cell_of_heap c1
  have f1 : w4.frozen? ⟨w.heap.size + 1, 0, none⟩ = false := frozen_of_heap c1
  have f2 : w4.frozen? ⟨w.heap.size + 1, 1, none⟩ = false := frozen_of_heap c1
  subst hW
  rw [show Nat.min bs.length bs.length = bs.length from Nat.min_self _] at hcp
  clear hb4 hb4' k4 kW hg hr hs4 c0 c1
  go_enter Try.func52, Try.ntmps52
  go_wp2
  refine bodyPost_ret (v := .agg #[.int .u32 t, .slice (some ⟨w.heap.size + 1 + 1, 0, none⟩) bs.length bs.length]) (by simp [results, Try.results52, go_sem, d1, d2]) rfl ⟨_, rfl, ?_, ?_⟩
  · exact (ho.keep (((Keeps.refl _ _).setCell (by simp) _).setCell (by simp) _)).mono (fun k _ h => by omega)
  · exact (kk.setCell (by simp) _).setCell (by simp) _
end Go.Proofs.Ytgnndggbjipioaa
