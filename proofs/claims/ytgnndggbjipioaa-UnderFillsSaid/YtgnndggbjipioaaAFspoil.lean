/- weftlaw18.framed, where a byte of a packet that is there is to be spoiled and nothing comes of it: it answers true. Conditions: the net stands whole. -/
import Derived.Test.YtgnndggbjipioaaAFyes
namespace Go.Proofs.Ytgnndggbjipioaa
open Go.RowKit

theorem fspoilS_bad {j : Nat} {at_ : Int} {m : UInt8} {ps : List Pk} (h : j < ps.length) (hb : ¬ (0 ≤ at_ ∧ at_ < ps[j].2.length ∧ m ≠ 0)) : spoilS j at_ m ps = (1, ps) := by
  unfold spoilS
  rw [dif_pos ⟨by omega, by omega⟩, dif_neg]
  simpa using hb
theorem fspoilS_yes {j a : Nat} {m : UInt8} {ps : List Pk} (h : j < ps.length) (ha : a < ps[j].2.length) (hm : m ≠ 0) : spoilS j a m ps = (0, ps.set j (ps[j].1, ps[j].2.set a (ps[j].2[a] ^^^ m))) := by
  unfold spoilS
  rw [dif_pos ⟨by omega, by omega⟩, dif_pos (by simpa using ⟨ha, hm⟩)]
  simp

set_option maxRecDepth 10000 in
set_option maxHeartbeats 4000000 in
theorem framed_spoilat_neg (w : World) (F : Nat → Prop) (g lim : Nat) (ps : List Pk) (j : Nat) (a : Int) (m : UInt8) (A : Option Addr) (n c : Nat) (hN : NetU F w g lim ps) (hj : j < ps.length) (hbad : a < 0) :
    Calls Try.prog 26 #[.pointer (some ⟨g, 0, none⟩), .agg #[.int .i64 5, .slice A n c, .int .i64 (j : Int), .int .i64 a, .int .u8 m.toNat], .int .i64 (lim : Int)] w (PostFr F w g lim) := by
  have k0 : Old w (w.alloc (.cells #[.int .i64 5, .slice A n c, .int .i64 (j : Int), .int .i64 a, .int .u8 m.toNat] 36)) := (Keeps.refl _ _).alloc _
  have hbx : (w.alloc (.cells #[.int .i64 5, .slice A n c, .int .i64 (j : Int), .int .i64 a, .int .u8 m.toNat] 36)).heap[w.heap.size]? = some (.cells #[.int .i64 5, .slice A n c, .int .i64 (j : Int), .int .i64 a, .int .u8 m.toNat] 36 (0, 0)) := heap_alloc_new _ _
  have hFlt := hN.lt
  have hroom := hN.room
  have hmost := hN.most
  have hps : ps.length ≤ 4096 := by omega
  have ht0 := fspoilS_bad (at_ := a) (m := m) hj (by omega)
  go_enter Try.func26, Try.ntmps26
  go_wp2_with fail
  refine (list_net (hN.keep (k0.old F))).mono ?_
  rintro e w1 ⟨A1, c1, rfl, hc1, hP1, k1⟩
  have k01 := k0.trans' k1
  have hb1 := k1.heap hbx trivial
  have x0 : w1.cell? ⟨w.heap.size, 0, none⟩ = some (.int .i64 5) := cell_of_heap hb1
  have x2 : w1.cell? ⟨w.heap.size, 2, none⟩ = some (.int .i64 (j : Int)) := cell_of_heap hb1
  have x3 : w1.cell? ⟨w.heap.size, 3, none⟩ = some (.int .i64 a) := cell_of_heap hb1
  have x4 : w1.cell? ⟨w.heap.size, 4, none⟩ = some (.int .u8 m.toNat) := cell_of_heap hb1
  have ht := spoil_net (hN.keep (k01.old F)) (j : Int) a m
  rw [ht0] at ht
  go_wp2_with fail
  refine ht.mono ?_
  clear ht x0 x2 x3 x4 hbx
  rintro e w2 ⟨rfl, F2, hN2, hF2, hK2⟩
  have hl := list_net hN2
  go_wp2_with fail
  refine hl.mono ?_
  clear hl
  rintro e w3 ⟨A3, c3, rfl, hc3, hP3, k23⟩
  have hz1 := k01.size
  have hz1' := k1.size
  have hbx3 := (k23.heap (hK2.heap hb1 fun h => Nat.lt_irrefl _ (hFlt _ h)) trivial)
  have x2 : w3.cell? ⟨w.heap.size, 2, none⟩ = some (.int .i64 (j : Int)) := cell_of_heap hbx3
  have x3 : w3.cell? ⟨w.heap.size, 3, none⟩ = some (.int .i64 a) := cell_of_heap hbx3
  have x4 : w3.cell? ⟨w.heap.size, 4, none⟩ = some (.int .u8 m.toNat) := cell_of_heap hbx3
  have hFF : ∀ k, F2 k → F k ∨ w.heap.size ≤ k := fun k h => (hF2 k h).imp id fun h => by omega
  have hP1' := (hP1.keep (hK2.mono fun k _ h hf => by have := hFlt k hf; simp at h; omega)).keep (k23.old _)
  have hK3 : Keeps (fun k => ¬ F k) w w3 := ((k01.old _).trans' hK2).trans' (k23.old _)
  obtain ⟨b, o, A', c', rfl, _, h0, h1, h2, h3⟩ := hP1'.at_ hj
  have hsm : ∀ nn, Calls Try.prog 33 #[.slice (some ⟨b, o, none⟩) ps.length c1, .slice A3 ps.length c3] (w3.drewN nn) (PostSame (w3.drewN nn) true) := fun nn => by
    have h := sents_any (w3.drewN nn) _ _ (some ⟨b, o, none⟩) A3 c1 c3 ps ps (hP1'.keep ((Keeps.refl _ _).drewN _)) (hP3.keep ((Keeps.refl _ _).drewN _))
    rwa [decide_eq_true (show ps = ps from rfl)] at h
  generalize ps[j] = p at *
  have i1 : (0 : Int) ≤ (j : Int) := by omega
  have i2 : (j : Int) < (ps.length : Int) := by omega
  have hbl := h3.1
  go_wp2
  go_quiet (fail)
  go_wp2_with fail
  refine (hsm _).mono ?_
  rintro e w6 ⟨rfl, n2, rfl⟩
  go_wp2
  go_ret
  exact ⟨rfl, F2, ps, (hN2.keep (k23.old _)).keep (by simpa using (Keeps.refl _ _).drewN _), hFF, hK3.trans' (by simpa using (Keeps.refl _ _).drewN _)⟩

set_option maxRecDepth 10000 in
set_option maxHeartbeats 4000000 in
theorem framed_spoilat_big (w : World) (F : Nat → Prop) (g lim : Nat) (ps : List Pk) (j : Nat) (a : Nat) (m : UInt8) (A : Option Addr) (n c : Nat) (hN : NetU F w g lim ps) (hj : j < ps.length) (hbad : ¬ a < ps[j].2.length) :
    Calls Try.prog 26 #[.pointer (some ⟨g, 0, none⟩), .agg #[.int .i64 5, .slice A n c, .int .i64 (j : Int), .int .i64 (a : Int), .int .u8 m.toNat], .int .i64 (lim : Int)] w (PostFr F w g lim) := by
  have k0 : Old w (w.alloc (.cells #[.int .i64 5, .slice A n c, .int .i64 (j : Int), .int .i64 (a : Int), .int .u8 m.toNat] 36)) := (Keeps.refl _ _).alloc _
  have hbx : (w.alloc (.cells #[.int .i64 5, .slice A n c, .int .i64 (j : Int), .int .i64 (a : Int), .int .u8 m.toNat] 36)).heap[w.heap.size]? = some (.cells #[.int .i64 5, .slice A n c, .int .i64 (j : Int), .int .i64 (a : Int), .int .u8 m.toNat] 36 (0, 0)) := heap_alloc_new _ _
  have hFlt := hN.lt
  have hroom := hN.room
  have hmost := hN.most
  have hps : ps.length ≤ 4096 := by omega
  have ht0 := fspoilS_bad (at_ := (a : Int)) (m := m) hj (by omega)
  go_enter Try.func26, Try.ntmps26
  go_wp2_with fail
  refine (list_net (hN.keep (k0.old F))).mono ?_
  rintro e w1 ⟨A1, c1, rfl, hc1, hP1, k1⟩
  have k01 := k0.trans' k1
  have hb1 := k1.heap hbx trivial
  have x0 : w1.cell? ⟨w.heap.size, 0, none⟩ = some (.int .i64 5) := cell_of_heap hb1
  have x2 : w1.cell? ⟨w.heap.size, 2, none⟩ = some (.int .i64 (j : Int)) := cell_of_heap hb1
  have x3 : w1.cell? ⟨w.heap.size, 3, none⟩ = some (.int .i64 (a : Int)) := cell_of_heap hb1
  have x4 : w1.cell? ⟨w.heap.size, 4, none⟩ = some (.int .u8 m.toNat) := cell_of_heap hb1
  have ht := spoil_net (hN.keep (k01.old F)) (j : Int) (a : Int) m
  rw [ht0] at ht
  go_wp2_with fail
  refine ht.mono ?_
  clear ht x0 x2 x3 x4 hbx
  rintro e w2 ⟨rfl, F2, hN2, hF2, hK2⟩
  have hl := list_net hN2
  go_wp2_with fail
  refine hl.mono ?_
  clear hl
  rintro e w3 ⟨A3, c3, rfl, hc3, hP3, k23⟩
  have hz1 := k01.size
  have hz1' := k1.size
  have hbx3 := (k23.heap (hK2.heap hb1 fun h => Nat.lt_irrefl _ (hFlt _ h)) trivial)
  have x2 : w3.cell? ⟨w.heap.size, 2, none⟩ = some (.int .i64 (j : Int)) := cell_of_heap hbx3
  have x3 : w3.cell? ⟨w.heap.size, 3, none⟩ = some (.int .i64 (a : Int)) := cell_of_heap hbx3
  have x4 : w3.cell? ⟨w.heap.size, 4, none⟩ = some (.int .u8 m.toNat) := cell_of_heap hbx3
  have hFF : ∀ k, F2 k → F k ∨ w.heap.size ≤ k := fun k h => (hF2 k h).imp id fun h => by omega
  have hP1' := (hP1.keep (hK2.mono fun k _ h hf => by have := hFlt k hf; simp at h; omega)).keep (k23.old _)
  have hK3 : Keeps (fun k => ¬ F k) w w3 := ((k01.old _).trans' hK2).trans' (k23.old _)
  obtain ⟨b, o, A', c', rfl, _, h0, h1, h2, h3⟩ := hP1'.at_ hj
  have hsm : ∀ nn, Calls Try.prog 33 #[.slice (some ⟨b, o, none⟩) ps.length c1, .slice A3 ps.length c3] (w3.drewN nn) (PostSame (w3.drewN nn) true) := fun nn => by
    have h := sents_any (w3.drewN nn) _ _ (some ⟨b, o, none⟩) A3 c1 c3 ps ps (hP1'.keep ((Keeps.refl _ _).drewN _)) (hP3.keep ((Keeps.refl _ _).drewN _))
    rwa [decide_eq_true (show ps = ps from rfl)] at h
  generalize ps[j] = p at *
  have i1 : (0 : Int) ≤ (j : Int) := by omega
  have i2 : (j : Int) < (ps.length : Int) := by omega
  have hbl := h3.1
  have i3 : ¬ (a : Int) < (p.2.length : Int) := by omega
  go_wp2
  go_quiet (fail)
  go_wp2_with fail
  refine (hsm _).mono ?_
  rintro e w6 ⟨rfl, n2, rfl⟩
  go_wp2
  go_ret
  exact ⟨rfl, F2, ps, (hN2.keep (k23.old _)).keep (by simpa using (Keeps.refl _ _).drewN _), hFF, hK3.trans' (by simpa using (Keeps.refl _ _).drewN _)⟩

set_option maxRecDepth 10000 in
set_option maxHeartbeats 4000000 in
theorem framed_spoilat_zero (w : World) (F : Nat → Prop) (g lim : Nat) (ps : List Pk) (j : Nat) (a : Nat) (m : UInt8) (A : Option Addr) (n c : Nat) (hN : NetU F w g lim ps) (hj : j < ps.length) (hbad : a < ps[j].2.length) (hm : m = 0) :
    Calls Try.prog 26 #[.pointer (some ⟨g, 0, none⟩), .agg #[.int .i64 5, .slice A n c, .int .i64 (j : Int), .int .i64 (a : Int), .int .u8 m.toNat], .int .i64 (lim : Int)] w (PostFr F w g lim) := by
  have k0 : Old w (w.alloc (.cells #[.int .i64 5, .slice A n c, .int .i64 (j : Int), .int .i64 (a : Int), .int .u8 m.toNat] 36)) := (Keeps.refl _ _).alloc _
  have hbx : (w.alloc (.cells #[.int .i64 5, .slice A n c, .int .i64 (j : Int), .int .i64 (a : Int), .int .u8 m.toNat] 36)).heap[w.heap.size]? = some (.cells #[.int .i64 5, .slice A n c, .int .i64 (j : Int), .int .i64 (a : Int), .int .u8 m.toNat] 36 (0, 0)) := heap_alloc_new _ _
  have hFlt := hN.lt
  have hroom := hN.room
  have hmost := hN.most
  have hps : ps.length ≤ 4096 := by omega
  have ht0 := fspoilS_bad (at_ := (a : Int)) (m := m) hj (by simp [hm])
  have HM := hid hm
  clear hm
  go_enter Try.func26, Try.ntmps26
  go_wp2_with fail
  refine (list_net (hN.keep (k0.old F))).mono ?_
  rintro e w1 ⟨A1, c1, rfl, hc1, hP1, k1⟩
  have k01 := k0.trans' k1
  have hb1 := k1.heap hbx trivial
  have x0 : w1.cell? ⟨w.heap.size, 0, none⟩ = some (.int .i64 5) := cell_of_heap hb1
  have x2 : w1.cell? ⟨w.heap.size, 2, none⟩ = some (.int .i64 (j : Int)) := cell_of_heap hb1
  have x3 : w1.cell? ⟨w.heap.size, 3, none⟩ = some (.int .i64 (a : Int)) := cell_of_heap hb1
  have x4 : w1.cell? ⟨w.heap.size, 4, none⟩ = some (.int .u8 m.toNat) := cell_of_heap hb1
  have ht := spoil_net (hN.keep (k01.old F)) (j : Int) (a : Int) m
  rw [ht0] at ht
  go_wp2_with fail
  refine ht.mono ?_
  clear ht x0 x2 x3 x4 hbx
  rintro e w2 ⟨rfl, F2, hN2, hF2, hK2⟩
  have hl := list_net hN2
  go_wp2_with fail
  refine hl.mono ?_
  clear hl
  rintro e w3 ⟨A3, c3, rfl, hc3, hP3, k23⟩
  have hz1 := k01.size
  have hz1' := k1.size
  have hbx3 := (k23.heap (hK2.heap hb1 fun h => Nat.lt_irrefl _ (hFlt _ h)) trivial)
  have x2 : w3.cell? ⟨w.heap.size, 2, none⟩ = some (.int .i64 (j : Int)) := cell_of_heap hbx3
  have x3 : w3.cell? ⟨w.heap.size, 3, none⟩ = some (.int .i64 (a : Int)) := cell_of_heap hbx3
  have x4 : w3.cell? ⟨w.heap.size, 4, none⟩ = some (.int .u8 m.toNat) := cell_of_heap hbx3
  have hFF : ∀ k, F2 k → F k ∨ w.heap.size ≤ k := fun k h => (hF2 k h).imp id fun h => by omega
  have hP1' := (hP1.keep (hK2.mono fun k _ h hf => by have := hFlt k hf; simp at h; omega)).keep (k23.old _)
  have hK3 : Keeps (fun k => ¬ F k) w w3 := ((k01.old _).trans' hK2).trans' (k23.old _)
  obtain ⟨b, o, A', c', rfl, _, h0, h1, h2, h3⟩ := hP1'.at_ hj
  have hsm : ∀ nn, Calls Try.prog 33 #[.slice (some ⟨b, o, none⟩) ps.length c1, .slice A3 ps.length c3] (w3.drewN nn) (PostSame (w3.drewN nn) true) := fun nn => by
    have h := sents_any (w3.drewN nn) _ _ (some ⟨b, o, none⟩) A3 c1 c3 ps ps (hP1'.keep ((Keeps.refl _ _).drewN _)) (hP3.keep ((Keeps.refl _ _).drewN _))
    rwa [decide_eq_true (show ps = ps from rfl)] at h
  generalize ps[j] = p at *
  have i1 : (0 : Int) ≤ (j : Int) := by omega
  have i2 : (j : Int) < (ps.length : Int) := by omega
  have hbl := h3.1
  have hm := HM.out
  subst hm
  have i3 : (a : Int) < (p.2.length : Int) := by omega
  go_wp2
  go_quiet (fail)
  go_wp2_with fail
  refine (hsm _).mono ?_
  rintro e w6 ⟨rfl, n2, rfl⟩
  go_wp2
  go_ret
  exact ⟨rfl, F2, ps, (hN2.keep (k23.old _)).keep (by simpa using (Keeps.refl _ _).drewN _), hFF, hK3.trans' (by simpa using (Keeps.refl _ _).drewN _)⟩
end Go.Proofs.Ytgnndggbjipioaa
