/- weftlaw12.example, first: the document's example, byte for byte. Condition: the table lies. -/
import Derived.Test.YtdpaaoeipconcaaDoorJPair
namespace Go.Proofs.YtdpaaoeipconcaaDoor
open Go.RowKit

/-- The example's bytes. -/
def exB : List UInt8 := [0x77, 0x65, 0x66, 0x74, 0, 0, 0, 1, 0, 0, 0, 0, 0x46, 0x52, 0x5b, 0x30, 0, 0, 0, 2, 0x9e, 0x83, 0x48, 0x6d, 0xfe, 0xa2, 0x2a, 0x16, 0x61, 0x62, 0, 0, 0, 0, 0, 0, 0, 0, 0x26, 0x56, 0x86, 0x93]

theorem ex_area : exB = areaB 1 [] [[97, 98], []] := by decide +kernel

def exJ0 : Jn := ⟨[], [], [⟨0, 0, headB 1 0⟩], 0, 1, 0, 16⟩
def exJ1 : Jn := ⟨[], [], [⟨0, 0, headB 1 0⟩, ⟨0, 16, frameB 1 0 [97, 98]⟩], 0, 1, 1, 30⟩
def exJ2 : Jn := ⟨[], [], [⟨0, 0, headB 1 0⟩, ⟨0, 16, frameB 1 0 [97, 98]⟩, ⟨0, 30, frameB 1 1 []⟩], 0, 1, 2, 42⟩

theorem ex_open : openJ ([], []) = some (exJ0, []) := by
  have h : readA [] = .short := readA_short (by decide)
  unfold openJ
  simp only [h]
  rfl
theorem ex_app1 : appendJ exJ0 [97, 98] = (0, exJ1) := rfl
theorem ex_app2 : appendJ exJ1 [] = (0, exJ2) := rfl
theorem ex_dirty : dirtyN exJ2.ws = 42 := rfl
theorem ex_crash : crashJ exJ2 99 = (exB, []) := by decide +kernel
theorem ex_back : openJ (exB, []) = some (⟨exB, [], [], 0, 1, 2, 42⟩, [[97, 98], []]) := by
  have h : readA exB = ⟨3, 1, [[97, 98], []], 42⟩ := by
    rw [ex_area]
    have h := readA_whole (g := 1) (base := []) (more := [[97, 98], []]) (by decide) (by decide) (by decide)
    exact h
  have h2 : readA [] = .short := readA_short (by decide)
  unfold openJ
  simp only [h, h2]
  rfl

def exA : List UInt8 := [119, 101, 102, 116, 0, 0, 0, 1, 0, 0, 0, 0, 70, 82, 91, 48, 0, 0, 0, 2, 158, 131, 72, 109, 254, 162, 42, 22, 97, 98]
def exC : List UInt8 := [0, 0, 0, 0, 0, 0, 0, 0, 38, 86, 134, 147]

set_option maxHeartbeats 2000000 in
theorem example_any (w : World) : Calls Tryd.prog 55 #[] w (PostOwn w exB) := by
  go_enter Tryd.func55, Tryd.ntmps55
  go_upto_region 2 with fail
  obtain ⟨W0, hW0⟩ : ∃ W, W = w.alloc (.cells #[Value.int .u8 119, Value.int .u8 101, Value.int .u8 102, Value.int .u8 116, Value.int .u8 0, Value.int .u8 0, Value.int .u8 0, Value.int .u8 1, Value.int .u8 0, Value.int .u8 0, Value.int .u8 0, Value.int .u8 0, Value.int .u8 70, Value.int .u8 82, Value.int .u8 91, Value.int .u8 48, Value.int .u8 0, Value.int .u8 0, Value.int .u8 0, Value.int .u8 2, Value.int .u8 158, Value.int .u8 131, Value.int .u8 72, Value.int .u8 109, Value.int .u8 254, Value.int .u8 162, Value.int .u8 42, Value.int .u8 22, Value.int .u8 97, Value.int .u8 98] 5) := ⟨_, rfl⟩
  rw [← hW0]
  have k0 : Old w W0 := by rw [hW0]; exact (Keeps.refl _ _).alloc _
  have hb0 : W0.heap[w.heap.size]? = some (.cells (exA.map bv).toArray 5 (0, 0)) := by rw [hW0]; exact heap_alloc_new _ _
  clear hW0
  obtain ⟨W1, hW1⟩ : ∃ W, W = W0.alloc (.cells #[Value.int .u8 0, Value.int .u8 0, Value.int .u8 0, Value.int .u8 0, Value.int .u8 0, Value.int .u8 0, Value.int .u8 0, Value.int .u8 0, Value.int .u8 38, Value.int .u8 86, Value.int .u8 134, Value.int .u8 147] 5) := ⟨_, rfl⟩
  have k1 : Old W0 W1 := by rw [hW1]; exact (Keeps.refl _ _).alloc _
  have hb1 : W1.heap[W0.heap.size]? = some (.cells (exC.map bv).toArray 5 (0, 0)) := by rw [hW1]; exact heap_alloc_new _ _
  have hO := OwnB.of_block (n := 30) (k1.heap hb0 trivial) rfl (by decide)
  have hB := Bts.of_block hb1 (by decide)
  have hrow : W1.ownsRow 0 5 1 (.slice (some ⟨w.heap.size, 0, none⟩) 30 30) 30 (exA.map bv) := hO.row
  go_wp2_with (at_builtin; rw [← hW1]; refine wpList_append_ex _ (by rfl) _ _ 22 5 (by rfl) Tryd.underlying22 info5 (by rfl) (by omega) (by rfl) hrow (some ⟨W0.heap.size, 0, none⟩) 12 12 (exC.map bv) (by rfl) (by rfl) (fun h => (by obtain ⟨ad, e, _, h⟩ := hB.src (by simpa using h); exact ⟨ad, e, h⟩)) (bv_one exC) (by omega) (by unfold maxLen; omega) ?_; intro v2 w2 hown2 hgrow2 hat2)
  go_ret
  have K : Keeps (fun k => k ≠ w.heap.size) W1 w2 := (Keeps.refl _ _).grown hgrow2 (fun k _ h hn => by
    have h' : some w.heap.size = some k := h
    injection h' with h'
    omega)
  have z0 := k0.size
  have z1 := k1.size
  refine ⟨v2, rfl, ⟨hown2, fun k hk => ?_, by decide⟩, (k0.trans' k1).trans K fun k hk _ => by show k ≠ w.heap.size; omega⟩
  rcases hat2 with e | e
  · rw [e] at hk
    have h' : some w.heap.size = some k := hk
    injection h' with h'
    omega
  · rw [e] at hk; injection hk with hk; omega

end Go.Proofs.YtdpaaoeipconcaaDoor
