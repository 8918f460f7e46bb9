/- weftlaw18.framed, where the packet that is asked for is not there: it answers true. Conditions: the net stands whole. -/
import Derived.Test.YtgnndggbjipioaaAFput
namespace Go.Proofs.Ytgnndggbjipioaa
open Go.RowKit

theorem ftakeS_no {i : Int} {ps : List Pk} (h : ¬ (0 ≤ i ∧ i < ps.length)) : takeS i ps = ((0, []), 3, ps) := by unfold takeS; rw [dif_neg h]
theorem ftakeS_yes {j : Nat} {ps : List Pk} (h : j < ps.length) : takeS j ps = (ps[j], 0, ps.eraseIdx j) := by
  unfold takeS
  rw [dif_pos ⟨by omega, by omega⟩]
  simp
theorem floseS_no {i : Int} {ps : List Pk} (h : ¬ (0 ≤ i ∧ i < ps.length)) : loseS i ps = (3, ps) := by unfold loseS; rw [ftakeS_no h]
theorem fcopyS_no {lim : Nat} {i : Int} {ps : List Pk} (h : ¬ (0 ≤ i ∧ i < ps.length)) : copyS lim i ps = (3, ps) := by unfold copyS; rw [dif_neg h]
theorem fspoilS_no {i at_ : Int} {m : UInt8} {ps : List Pk} (h : ¬ (0 ≤ i ∧ i < ps.length)) : spoilS i at_ m ps = (3, ps) := by unfold spoilS; rw [dif_neg h]

set_option maxRecDepth 10000 in
set_option maxHeartbeats 4000000 in
theorem framed_take_neg (w : World) (F : Nat → Prop) (g lim : Nat) (ps : List Pk) (i : Int) (at_ : Int) (m : UInt8) (A : Option Addr) (n c : Nat) (hN : NetU F w g lim ps) (hno : i < 0) :
    Calls Try.prog 26 #[.pointer (some ⟨g, 0, none⟩), .agg #[.int .i64 2, .slice A n c, .int .i64 i, .int .i64 at_, .int .u8 m.toNat], .int .i64 (lim : Int)] w (PostFr F w g lim) := by
  have k0 : Old w (w.alloc (.cells #[.int .i64 2, .slice A n c, .int .i64 i, .int .i64 at_, .int .u8 m.toNat] 36)) := (Keeps.refl _ _).alloc _
  have hbx : (w.alloc (.cells #[.int .i64 2, .slice A n c, .int .i64 i, .int .i64 at_, .int .u8 m.toNat] 36)).heap[w.heap.size]? = some (.cells #[.int .i64 2, .slice A n c, .int .i64 i, .int .i64 at_, .int .u8 m.toNat] 36 (0, 0)) := heap_alloc_new _ _
  have hFlt := hN.lt
  have hroom := hN.room
  have hmost := hN.most
  have hps : ps.length ≤ 4096 := by omega
  have ht0 := ftakeS_no (i := i) (ps := ps) (show ¬ (0 ≤ i ∧ i < (ps.length : Int)) by omega)
  go_enter Try.func26, Try.ntmps26
  go_wp2_with fail
  refine (list_net (hN.keep (k0.old F))).mono ?_
  rintro e w1 ⟨A1, c1, rfl, hc1, hP1, k1⟩
  have k01 := k0.trans' k1
  have x0 : w1.cell? ⟨w.heap.size, 0, none⟩ = some (.int .i64 2) := cell_of_heap (k1.heap hbx trivial)
  have x2 : w1.cell? ⟨w.heap.size, 2, none⟩ = some (.int .i64 i) := cell_of_heap (k1.heap hbx trivial)
  have x3 : w1.cell? ⟨w.heap.size, 3, none⟩ = some (.int .i64 at_) := cell_of_heap (k1.heap hbx trivial)
  have x4 : w1.cell? ⟨w.heap.size, 4, none⟩ = some (.int .u8 m.toNat) := cell_of_heap (k1.heap hbx trivial)
  have ht := take_net (hN.keep (k01.old F)) i
  rw [ht0] at ht
  go_wp2_with fail
  refine ht.mono ?_
  clear ht x0 x2 x3 x4 hbx
  rintro e w2 ⟨A2, c2, F2, G2, rfl, hN2, hb2, hc2, hF2, hG2, _, hK2⟩
  have k2s : Old w2 (w2.alloc (.cells #[.int .u32 0, .slice A2 0 c2] 48)) := (Keeps.refl _ _).alloc _
  have hs9 : (w2.alloc (.cells #[.int .u32 0, .slice A2 0 c2] 48)).heap[w2.heap.size]? = some (.cells #[.int .u32 0, .slice A2 0 c2] 48 (0, 0)) := heap_alloc_new _ _
  have hl := list_net (hN2.keep (k2s.old F2))
  go_wp2_with fail
  refine hl.mono ?_
  clear hl
  rintro e w3 ⟨A3, c3, rfl, hc3, hP3, k3⟩
  have k23 := k2s.trans' k3
  have y0 : w3.cell? ⟨w2.heap.size, 0, none⟩ = some (.int .u32 0) := cell_of_heap (k3.heap hs9 trivial)
  have y1 : w3.cell? ⟨w2.heap.size, 1, none⟩ = some (.slice A2 0 c2) := cell_of_heap (k3.heap hs9 trivial)
  have hFF : ∀ k, F2 k → F k ∨ w.heap.size ≤ k := fun k h => .inl (hF2 k h)
  clear hs9 k3 k2s
  have hP1' := (hP1.keep (hK2.mono fun k _ h hf => by have := hFlt k hf; simp at h; omega)).keep (k23.old _)
  have hsm := sents_any w3 _ _ A1 A3 c1 c3 ps ps hP1' hP3
  rw [decide_eq_true (show ps = ps from rfl)] at hsm
  have hK3 : Keeps (fun k => ¬ F k) w w3 := ((k01.old _).trans' hK2).trans' (k23.old _)
  go_wp2_with fail
  refine hsm.mono ?_
  rintro e w4 ⟨rfl, nd, rfl⟩
  go_wp2
  go_ret
  exact ⟨rfl, F2, ps, (hN2.keep (k23.old _)).keep ((Keeps.refl _ _).drewN _), hFF, hK3.trans' ((Keeps.refl _ _).drewN _)⟩

set_option maxRecDepth 10000 in
set_option maxHeartbeats 4000000 in
theorem framed_take_big (w : World) (F : Nat → Prop) (g lim : Nat) (ps : List Pk) (j : Nat) (at_ : Int) (m : UInt8) (A : Option Addr) (n c : Nat) (hN : NetU F w g lim ps) (hno : ¬ j < ps.length) :
    Calls Try.prog 26 #[.pointer (some ⟨g, 0, none⟩), .agg #[.int .i64 2, .slice A n c, .int .i64 (j : Int), .int .i64 at_, .int .u8 m.toNat], .int .i64 (lim : Int)] w (PostFr F w g lim) := by
  have k0 : Old w (w.alloc (.cells #[.int .i64 2, .slice A n c, .int .i64 (j : Int), .int .i64 at_, .int .u8 m.toNat] 36)) := (Keeps.refl _ _).alloc _
  have hbx : (w.alloc (.cells #[.int .i64 2, .slice A n c, .int .i64 (j : Int), .int .i64 at_, .int .u8 m.toNat] 36)).heap[w.heap.size]? = some (.cells #[.int .i64 2, .slice A n c, .int .i64 (j : Int), .int .i64 at_, .int .u8 m.toNat] 36 (0, 0)) := heap_alloc_new _ _
  have hFlt := hN.lt
  have hroom := hN.room
  have hmost := hN.most
  have hps : ps.length ≤ 4096 := by omega
  have ht0 := ftakeS_no (i := (j : Int)) (ps := ps) (show ¬ (0 ≤ (j : Int) ∧ (j : Int) < (ps.length : Int)) by omega)
  go_enter Try.func26, Try.ntmps26
  go_wp2_with fail
  refine (list_net (hN.keep (k0.old F))).mono ?_
  rintro e w1 ⟨A1, c1, rfl, hc1, hP1, k1⟩
  have k01 := k0.trans' k1
  have x0 : w1.cell? ⟨w.heap.size, 0, none⟩ = some (.int .i64 2) := cell_of_heap (k1.heap hbx trivial)
  have x2 : w1.cell? ⟨w.heap.size, 2, none⟩ = some (.int .i64 (j : Int)) := cell_of_heap (k1.heap hbx trivial)
  have x3 : w1.cell? ⟨w.heap.size, 3, none⟩ = some (.int .i64 at_) := cell_of_heap (k1.heap hbx trivial)
  have x4 : w1.cell? ⟨w.heap.size, 4, none⟩ = some (.int .u8 m.toNat) := cell_of_heap (k1.heap hbx trivial)
  have ht := take_net (hN.keep (k01.old F)) (j : Int)
  rw [ht0] at ht
  go_wp2_with fail
  refine ht.mono ?_
  clear ht x0 x2 x3 x4 hbx
  rintro e w2 ⟨A2, c2, F2, G2, rfl, hN2, hb2, hc2, hF2, hG2, _, hK2⟩
  have k2s : Old w2 (w2.alloc (.cells #[.int .u32 0, .slice A2 0 c2] 48)) := (Keeps.refl _ _).alloc _
  have hs9 : (w2.alloc (.cells #[.int .u32 0, .slice A2 0 c2] 48)).heap[w2.heap.size]? = some (.cells #[.int .u32 0, .slice A2 0 c2] 48 (0, 0)) := heap_alloc_new _ _
  have hl := list_net (hN2.keep (k2s.old F2))
  go_wp2_with fail
  refine hl.mono ?_
  clear hl
  rintro e w3 ⟨A3, c3, rfl, hc3, hP3, k3⟩
  have k23 := k2s.trans' k3
  have y0 : w3.cell? ⟨w2.heap.size, 0, none⟩ = some (.int .u32 0) := cell_of_heap (k3.heap hs9 trivial)
  have y1 : w3.cell? ⟨w2.heap.size, 1, none⟩ = some (.slice A2 0 c2) := cell_of_heap (k3.heap hs9 trivial)
  have hFF : ∀ k, F2 k → F k ∨ w.heap.size ≤ k := fun k h => .inl (hF2 k h)
  clear hs9 k3 k2s
  have hP1' := (hP1.keep (hK2.mono fun k _ h hf => by have := hFlt k hf; simp at h; omega)).keep (k23.old _)
  have hsm := sents_any w3 _ _ A1 A3 c1 c3 ps ps hP1' hP3
  rw [decide_eq_true (show ps = ps from rfl)] at hsm
  have hK3 : Keeps (fun k => ¬ F k) w w3 := ((k01.old _).trans' hK2).trans' (k23.old _)
  go_wp2_with fail
  refine hsm.mono ?_
  rintro e w4 ⟨rfl, nd, rfl⟩
  go_wp2
  go_ret
  exact ⟨rfl, F2, ps, (hN2.keep (k23.old _)).keep ((Keeps.refl _ _).drewN _), hFF, hK3.trans' ((Keeps.refl _ _).drewN _)⟩

set_option maxRecDepth 10000 in
set_option maxHeartbeats 4000000 in
theorem framed_lose_neg (w : World) (F : Nat → Prop) (g lim : Nat) (ps : List Pk) (i : Int) (at_ : Int) (m : UInt8) (A : Option Addr) (n c : Nat) (hN : NetU F w g lim ps) (hno : i < 0) :
    Calls Try.prog 26 #[.pointer (some ⟨g, 0, none⟩), .agg #[.int .i64 4, .slice A n c, .int .i64 i, .int .i64 at_, .int .u8 m.toNat], .int .i64 (lim : Int)] w (PostFr F w g lim) := by
  have k0 : Old w (w.alloc (.cells #[.int .i64 4, .slice A n c, .int .i64 i, .int .i64 at_, .int .u8 m.toNat] 36)) := (Keeps.refl _ _).alloc _
  have hbx : (w.alloc (.cells #[.int .i64 4, .slice A n c, .int .i64 i, .int .i64 at_, .int .u8 m.toNat] 36)).heap[w.heap.size]? = some (.cells #[.int .i64 4, .slice A n c, .int .i64 i, .int .i64 at_, .int .u8 m.toNat] 36 (0, 0)) := heap_alloc_new _ _
  have hFlt := hN.lt
  have hroom := hN.room
  have hmost := hN.most
  have hps : ps.length ≤ 4096 := by omega
  have ht0 := floseS_no (i := i) (ps := ps) (show ¬ (0 ≤ i ∧ i < (ps.length : Int)) by omega)
  go_enter Try.func26, Try.ntmps26
  go_wp2_with fail
  refine (list_net (hN.keep (k0.old F))).mono ?_
  rintro e w1 ⟨A1, c1, rfl, hc1, hP1, k1⟩
  have k01 := k0.trans' k1
  have x0 : w1.cell? ⟨w.heap.size, 0, none⟩ = some (.int .i64 4) := cell_of_heap (k1.heap hbx trivial)
  have x2 : w1.cell? ⟨w.heap.size, 2, none⟩ = some (.int .i64 i) := cell_of_heap (k1.heap hbx trivial)
  have x3 : w1.cell? ⟨w.heap.size, 3, none⟩ = some (.int .i64 at_) := cell_of_heap (k1.heap hbx trivial)
  have x4 : w1.cell? ⟨w.heap.size, 4, none⟩ = some (.int .u8 m.toNat) := cell_of_heap (k1.heap hbx trivial)
  have ht := lose_net (hN.keep (k01.old F)) i
  rw [ht0] at ht
  go_wp2_with fail
  refine ht.mono ?_
  clear ht x0 x2 x3 x4 hbx
  rintro e w2 ⟨rfl, F2, hN2, hF2, hK2⟩
  have hl := list_net hN2
  go_wp2_with fail
  refine hl.mono ?_
  clear hl
  rintro e w3 ⟨A3, c3, rfl, hc3, hP3, k23⟩
  have hz1 := k01.size
  have hFF : ∀ k, F2 k → F k ∨ w.heap.size ≤ k := fun k h => (hF2 k h).imp id fun h => by omega
  have hP1' := (hP1.keep (hK2.mono fun k _ h hf => by have := hFlt k hf; simp at h; omega)).keep (k23.old _)
  have hsm := sents_any w3 _ _ A1 A3 c1 c3 ps ps hP1' hP3
  rw [decide_eq_true (show ps = ps from rfl)] at hsm
  have hK3 : Keeps (fun k => ¬ F k) w w3 := ((k01.old _).trans' hK2).trans' (k23.old _)
  go_wp2_with fail
  refine hsm.mono ?_
  rintro e w4 ⟨rfl, nd, rfl⟩
  go_wp2
  go_ret
  exact ⟨rfl, F2, ps, (hN2.keep (k23.old _)).keep ((Keeps.refl _ _).drewN _), hFF, hK3.trans' ((Keeps.refl _ _).drewN _)⟩

set_option maxRecDepth 10000 in
set_option maxHeartbeats 4000000 in
theorem framed_lose_big (w : World) (F : Nat → Prop) (g lim : Nat) (ps : List Pk) (j : Nat) (at_ : Int) (m : UInt8) (A : Option Addr) (n c : Nat) (hN : NetU F w g lim ps) (hno : ¬ j < ps.length) :
    Calls Try.prog 26 #[.pointer (some ⟨g, 0, none⟩), .agg #[.int .i64 4, .slice A n c, .int .i64 (j : Int), .int .i64 at_, .int .u8 m.toNat], .int .i64 (lim : Int)] w (PostFr F w g lim) := by
  have k0 : Old w (w.alloc (.cells #[.int .i64 4, .slice A n c, .int .i64 (j : Int), .int .i64 at_, .int .u8 m.toNat] 36)) := (Keeps.refl _ _).alloc _
  have hbx : (w.alloc (.cells #[.int .i64 4, .slice A n c, .int .i64 (j : Int), .int .i64 at_, .int .u8 m.toNat] 36)).heap[w.heap.size]? = some (.cells #[.int .i64 4, .slice A n c, .int .i64 (j : Int), .int .i64 at_, .int .u8 m.toNat] 36 (0, 0)) := heap_alloc_new _ _
  have hFlt := hN.lt
  have hroom := hN.room
  have hmost := hN.most
  have hps : ps.length ≤ 4096 := by omega
  have ht0 := floseS_no (i := (j : Int)) (ps := ps) (show ¬ (0 ≤ (j : Int) ∧ (j : Int) < (ps.length : Int)) by omega)
  go_enter Try.func26, Try.ntmps26
  go_wp2_with fail
  refine (list_net (hN.keep (k0.old F))).mono ?_
  rintro e w1 ⟨A1, c1, rfl, hc1, hP1, k1⟩
  have k01 := k0.trans' k1
  have x0 : w1.cell? ⟨w.heap.size, 0, none⟩ = some (.int .i64 4) := cell_of_heap (k1.heap hbx trivial)
  have x2 : w1.cell? ⟨w.heap.size, 2, none⟩ = some (.int .i64 (j : Int)) := cell_of_heap (k1.heap hbx trivial)
  have x3 : w1.cell? ⟨w.heap.size, 3, none⟩ = some (.int .i64 at_) := cell_of_heap (k1.heap hbx trivial)
  have x4 : w1.cell? ⟨w.heap.size, 4, none⟩ = some (.int .u8 m.toNat) := cell_of_heap (k1.heap hbx trivial)
  have ht := lose_net (hN.keep (k01.old F)) (j : Int)
  rw [ht0] at ht
  go_wp2_with fail
  refine ht.mono ?_
  clear ht x0 x2 x3 x4 hbx
  rintro e w2 ⟨rfl, F2, hN2, hF2, hK2⟩
  have hl := list_net hN2
  go_wp2_with fail
  refine hl.mono ?_
  clear hl
  rintro e w3 ⟨A3, c3, rfl, hc3, hP3, k23⟩
  have hz1 := k01.size
  have hFF : ∀ k, F2 k → F k ∨ w.heap.size ≤ k := fun k h => (hF2 k h).imp id fun h => by omega
  have hP1' := (hP1.keep (hK2.mono fun k _ h hf => by have := hFlt k hf; simp at h; omega)).keep (k23.old _)
  have hsm := sents_any w3 _ _ A1 A3 c1 c3 ps ps hP1' hP3
  rw [decide_eq_true (show ps = ps from rfl)] at hsm
  have hK3 : Keeps (fun k => ¬ F k) w w3 := ((k01.old _).trans' hK2).trans' (k23.old _)
  go_wp2_with fail
  refine hsm.mono ?_
  rintro e w4 ⟨rfl, nd, rfl⟩
  go_wp2
  go_ret
  exact ⟨rfl, F2, ps, (hN2.keep (k23.old _)).keep ((Keeps.refl _ _).drewN _), hFF, hK3.trans' ((Keeps.refl _ _).drewN _)⟩

set_option maxRecDepth 10000 in
set_option maxHeartbeats 4000000 in
theorem framed_copy_neg (w : World) (F : Nat → Prop) (g lim : Nat) (ps : List Pk) (i : Int) (at_ : Int) (m : UInt8) (A : Option Addr) (n c : Nat) (hN : NetU F w g lim ps) (hno : i < 0) :
    Calls Try.prog 26 #[.pointer (some ⟨g, 0, none⟩), .agg #[.int .i64 3, .slice A n c, .int .i64 i, .int .i64 at_, .int .u8 m.toNat], .int .i64 (lim : Int)] w (PostFr F w g lim) := by
  have k0 : Old w (w.alloc (.cells #[.int .i64 3, .slice A n c, .int .i64 i, .int .i64 at_, .int .u8 m.toNat] 36)) := (Keeps.refl _ _).alloc _
  have hbx : (w.alloc (.cells #[.int .i64 3, .slice A n c, .int .i64 i, .int .i64 at_, .int .u8 m.toNat] 36)).heap[w.heap.size]? = some (.cells #[.int .i64 3, .slice A n c, .int .i64 i, .int .i64 at_, .int .u8 m.toNat] 36 (0, 0)) := heap_alloc_new _ _
  have hFlt := hN.lt
  have hroom := hN.room
  have hmost := hN.most
  have hps : ps.length ≤ 4096 := by omega
  have ht0 := fcopyS_no (lim := lim) (i := i) (ps := ps) (show ¬ (0 ≤ i ∧ i < (ps.length : Int)) by omega)
  go_enter Try.func26, Try.ntmps26
  go_wp2_with fail
  refine (list_net (hN.keep (k0.old F))).mono ?_
  rintro e w1 ⟨A1, c1, rfl, hc1, hP1, k1⟩
  have k01 := k0.trans' k1
  have x0 : w1.cell? ⟨w.heap.size, 0, none⟩ = some (.int .i64 3) := cell_of_heap (k1.heap hbx trivial)
  have x2 : w1.cell? ⟨w.heap.size, 2, none⟩ = some (.int .i64 i) := cell_of_heap (k1.heap hbx trivial)
  have x3 : w1.cell? ⟨w.heap.size, 3, none⟩ = some (.int .i64 at_) := cell_of_heap (k1.heap hbx trivial)
  have x4 : w1.cell? ⟨w.heap.size, 4, none⟩ = some (.int .u8 m.toNat) := cell_of_heap (k1.heap hbx trivial)
  have ht := copy_net (hN.keep (k01.old F)) i
  rw [ht0] at ht
  go_wp2_with fail
  refine ht.mono ?_
  clear ht x0 x2 x3 x4 hbx
  rintro e w2 ⟨rfl, F2, hN2, hF2, hK2⟩
  have hl := list_net hN2
  go_wp2_with fail
  refine hl.mono ?_
  clear hl
  rintro e w3 ⟨A3, c3, rfl, hc3, hP3, k23⟩
  have hz1 := k01.size
  have hFF : ∀ k, F2 k → F k ∨ w.heap.size ≤ k := fun k h => (hF2 k h).imp id fun h => by omega
  have hP1' := (hP1.keep (hK2.mono fun k _ h hf => by have := hFlt k hf; simp at h; omega)).keep (k23.old _)
  have hsm := sents_any w3 _ _ A1 A3 c1 c3 ps ps hP1' hP3
  rw [decide_eq_true (show ps = ps from rfl)] at hsm
  have hK3 : Keeps (fun k => ¬ F k) w w3 := ((k01.old _).trans' hK2).trans' (k23.old _)
  go_wp2_with fail
  refine hsm.mono ?_
  rintro e w4 ⟨rfl, nd, rfl⟩
  go_wp2
  go_ret
  exact ⟨rfl, F2, ps, (hN2.keep (k23.old _)).keep ((Keeps.refl _ _).drewN _), hFF, hK3.trans' ((Keeps.refl _ _).drewN _)⟩

set_option maxRecDepth 10000 in
set_option maxHeartbeats 4000000 in
theorem framed_copy_big (w : World) (F : Nat → Prop) (g lim : Nat) (ps : List Pk) (j : Nat) (at_ : Int) (m : UInt8) (A : Option Addr) (n c : Nat) (hN : NetU F w g lim ps) (hno : ¬ j < ps.length) :
    Calls Try.prog 26 #[.pointer (some ⟨g, 0, none⟩), .agg #[.int .i64 3, .slice A n c, .int .i64 (j : Int), .int .i64 at_, .int .u8 m.toNat], .int .i64 (lim : Int)] w (PostFr F w g lim) := by
  have k0 : Old w (w.alloc (.cells #[.int .i64 3, .slice A n c, .int .i64 (j : Int), .int .i64 at_, .int .u8 m.toNat] 36)) := (Keeps.refl _ _).alloc _
  have hbx : (w.alloc (.cells #[.int .i64 3, .slice A n c, .int .i64 (j : Int), .int .i64 at_, .int .u8 m.toNat] 36)).heap[w.heap.size]? = some (.cells #[.int .i64 3, .slice A n c, .int .i64 (j : Int), .int .i64 at_, .int .u8 m.toNat] 36 (0, 0)) := heap_alloc_new _ _
  have hFlt := hN.lt
  have hroom := hN.room
  have hmost := hN.most
  have hps : ps.length ≤ 4096 := by omega
  have ht0 := fcopyS_no (lim := lim) (i := (j : Int)) (ps := ps) (show ¬ (0 ≤ (j : Int) ∧ (j : Int) < (ps.length : Int)) by omega)
  go_enter Try.func26, Try.ntmps26
  go_wp2_with fail
  refine (list_net (hN.keep (k0.old F))).mono ?_
  rintro e w1 ⟨A1, c1, rfl, hc1, hP1, k1⟩
  have k01 := k0.trans' k1
  have x0 : w1.cell? ⟨w.heap.size, 0, none⟩ = some (.int .i64 3) := cell_of_heap (k1.heap hbx trivial)
  have x2 : w1.cell? ⟨w.heap.size, 2, none⟩ = some (.int .i64 (j : Int)) := cell_of_heap (k1.heap hbx trivial)
  have x3 : w1.cell? ⟨w.heap.size, 3, none⟩ = some (.int .i64 at_) := cell_of_heap (k1.heap hbx trivial)
  have x4 : w1.cell? ⟨w.heap.size, 4, none⟩ = some (.int .u8 m.toNat) := cell_of_heap (k1.heap hbx trivial)
  have ht := copy_net (hN.keep (k01.old F)) (j : Int)
  rw [ht0] at ht
  go_wp2_with fail
  refine ht.mono ?_
  clear ht x0 x2 x3 x4 hbx
  rintro e w2 ⟨rfl, F2, hN2, hF2, hK2⟩
  have hl := list_net hN2
  go_wp2_with fail
  refine hl.mono ?_
  clear hl
  rintro e w3 ⟨A3, c3, rfl, hc3, hP3, k23⟩
  have hz1 := k01.size
  have hFF : ∀ k, F2 k → F k ∨ w.heap.size ≤ k := fun k h => (hF2 k h).imp id fun h => by omega
  have hP1' := (hP1.keep (hK2.mono fun k _ h hf => by have := hFlt k hf; simp at h; omega)).keep (k23.old _)
  have hsm := sents_any w3 _ _ A1 A3 c1 c3 ps ps hP1' hP3
  rw [decide_eq_true (show ps = ps from rfl)] at hsm
  have hK3 : Keeps (fun k => ¬ F k) w w3 := ((k01.old _).trans' hK2).trans' (k23.old _)
  go_wp2_with fail
  refine hsm.mono ?_
  rintro e w4 ⟨rfl, nd, rfl⟩
  go_wp2
  go_ret
  exact ⟨rfl, F2, ps, (hN2.keep (k23.old _)).keep ((Keeps.refl _ _).drewN _), hFF, hK3.trans' ((Keeps.refl _ _).drewN _)⟩

set_option maxRecDepth 10000 in
set_option maxHeartbeats 4000000 in
theorem framed_spoil_neg (w : World) (F : Nat → Prop) (g lim : Nat) (ps : List Pk) (i : Int) (at_ : Int) (m : UInt8) (A : Option Addr) (n c : Nat) (hN : NetU F w g lim ps) (hno : i < 0) :
    Calls Try.prog 26 #[.pointer (some ⟨g, 0, none⟩), .agg #[.int .i64 5, .slice A n c, .int .i64 i, .int .i64 at_, .int .u8 m.toNat], .int .i64 (lim : Int)] w (PostFr F w g lim) := by
  have k0 : Old w (w.alloc (.cells #[.int .i64 5, .slice A n c, .int .i64 i, .int .i64 at_, .int .u8 m.toNat] 36)) := (Keeps.refl _ _).alloc _
  have hbx : (w.alloc (.cells #[.int .i64 5, .slice A n c, .int .i64 i, .int .i64 at_, .int .u8 m.toNat] 36)).heap[w.heap.size]? = some (.cells #[.int .i64 5, .slice A n c, .int .i64 i, .int .i64 at_, .int .u8 m.toNat] 36 (0, 0)) := heap_alloc_new _ _
  have hFlt := hN.lt
  have hroom := hN.room
  have hmost := hN.most
  have hps : ps.length ≤ 4096 := by omega
  have ht0 := fspoilS_no (at_ := at_) (m := m) (i := i) (ps := ps) (show ¬ (0 ≤ i ∧ i < (ps.length : Int)) by omega)
  go_enter Try.func26, Try.ntmps26
  go_wp2_with fail
  refine (list_net (hN.keep (k0.old F))).mono ?_
  rintro e w1 ⟨A1, c1, rfl, hc1, hP1, k1⟩
  have k01 := k0.trans' k1
  have x0 : w1.cell? ⟨w.heap.size, 0, none⟩ = some (.int .i64 5) := cell_of_heap (k1.heap hbx trivial)
  have x2 : w1.cell? ⟨w.heap.size, 2, none⟩ = some (.int .i64 i) := cell_of_heap (k1.heap hbx trivial)
  have x3 : w1.cell? ⟨w.heap.size, 3, none⟩ = some (.int .i64 at_) := cell_of_heap (k1.heap hbx trivial)
  have x4 : w1.cell? ⟨w.heap.size, 4, none⟩ = some (.int .u8 m.toNat) := cell_of_heap (k1.heap hbx trivial)
  have ht := spoil_net (hN.keep (k01.old F)) i at_ m
  rw [ht0] at ht
  go_wp2_with fail
  refine ht.mono ?_
  clear ht x0 x2 x3 x4 hbx
  rintro e w2 ⟨rfl, F2, hN2, hF2, hK2⟩
  have hl := list_net hN2
  go_wp2_with fail
  refine hl.mono ?_
  clear hl
  rintro e w3 ⟨A3, c3, rfl, hc3, hP3, k23⟩
  have hz1 := k01.size
  have hFF : ∀ k, F2 k → F k ∨ w.heap.size ≤ k := fun k h => (hF2 k h).imp id fun h => by omega
  have hP1' := (hP1.keep (hK2.mono fun k _ h hf => by have := hFlt k hf; simp at h; omega)).keep (k23.old _)
  have hsm := sents_any w3 _ _ A1 A3 c1 c3 ps ps hP1' hP3
  rw [decide_eq_true (show ps = ps from rfl)] at hsm
  have hK3 : Keeps (fun k => ¬ F k) w w3 := ((k01.old _).trans' hK2).trans' (k23.old _)
  go_wp2_with fail
  refine hsm.mono ?_
  rintro e w4 ⟨rfl, nd, rfl⟩
  go_wp2
  go_ret
  exact ⟨rfl, F2, ps, (hN2.keep (k23.old _)).keep ((Keeps.refl _ _).drewN _), hFF, hK3.trans' ((Keeps.refl _ _).drewN _)⟩

set_option maxRecDepth 10000 in
set_option maxHeartbeats 4000000 in
theorem framed_spoil_big (w : World) (F : Nat → Prop) (g lim : Nat) (ps : List Pk) (j : Nat) (at_ : Int) (m : UInt8) (A : Option Addr) (n c : Nat) (hN : NetU F w g lim ps) (hno : ¬ j < ps.length) :
    Calls Try.prog 26 #[.pointer (some ⟨g, 0, none⟩), .agg #[.int .i64 5, .slice A n c, .int .i64 (j : Int), .int .i64 at_, .int .u8 m.toNat], .int .i64 (lim : Int)] w (PostFr F w g lim) := by
  have k0 : Old w (w.alloc (.cells #[.int .i64 5, .slice A n c, .int .i64 (j : Int), .int .i64 at_, .int .u8 m.toNat] 36)) := (Keeps.refl _ _).alloc _
  have hbx : (w.alloc (.cells #[.int .i64 5, .slice A n c, .int .i64 (j : Int), .int .i64 at_, .int .u8 m.toNat] 36)).heap[w.heap.size]? = some (.cells #[.int .i64 5, .slice A n c, .int .i64 (j : Int), .int .i64 at_, .int .u8 m.toNat] 36 (0, 0)) := heap_alloc_new _ _
  have hFlt := hN.lt
  have hroom := hN.room
  have hmost := hN.most
  have hps : ps.length ≤ 4096 := by omega
  have ht0 := fspoilS_no (at_ := at_) (m := m) (i := (j : Int)) (ps := ps) (show ¬ (0 ≤ (j : Int) ∧ (j : Int) < (ps.length : Int)) by omega)
  go_enter Try.func26, Try.ntmps26
  go_wp2_with fail
  refine (list_net (hN.keep (k0.old F))).mono ?_
  rintro e w1 ⟨A1, c1, rfl, hc1, hP1, k1⟩
  have k01 := k0.trans' k1
  have x0 : w1.cell? ⟨w.heap.size, 0, none⟩ = some (.int .i64 5) := cell_of_heap (k1.heap hbx trivial)
  have x2 : w1.cell? ⟨w.heap.size, 2, none⟩ = some (.int .i64 (j : Int)) := cell_of_heap (k1.heap hbx trivial)
  have x3 : w1.cell? ⟨w.heap.size, 3, none⟩ = some (.int .i64 at_) := cell_of_heap (k1.heap hbx trivial)
  have x4 : w1.cell? ⟨w.heap.size, 4, none⟩ = some (.int .u8 m.toNat) := cell_of_heap (k1.heap hbx trivial)
  have ht := spoil_net (hN.keep (k01.old F)) (j : Int) at_ m
  rw [ht0] at ht
  go_wp2_with fail
  refine ht.mono ?_
  clear ht x0 x2 x3 x4 hbx
  rintro e w2 ⟨rfl, F2, hN2, hF2, hK2⟩
  have hl := list_net hN2
  go_wp2_with fail
  refine hl.mono ?_
  clear hl
  rintro e w3 ⟨A3, c3, rfl, hc3, hP3, k23⟩
  have hz1 := k01.size
  have hFF : ∀ k, F2 k → F k ∨ w.heap.size ≤ k := fun k h => (hF2 k h).imp id fun h => by omega
  have hP1' := (hP1.keep (hK2.mono fun k _ h hf => by have := hFlt k hf; simp at h; omega)).keep (k23.old _)
  have hsm := sents_any w3 _ _ A1 A3 c1 c3 ps ps hP1' hP3
  rw [decide_eq_true (show ps = ps from rfl)] at hsm
  have hK3 : Keeps (fun k => ¬ F k) w w3 := ((k01.old _).trans' hK2).trans' (k23.old _)
  go_wp2_with fail
  refine hsm.mono ?_
  rintro e w4 ⟨rfl, nd, rfl⟩
  go_wp2
  go_ret
  exact ⟨rfl, F2, ps, (hN2.keep (k23.old _)).keep ((Keeps.refl _ _).drewN _), hFF, hK3.trans' ((Keeps.refl _ _).drewN _)⟩
end Go.Proofs.Ytgnndggbjipioaa
