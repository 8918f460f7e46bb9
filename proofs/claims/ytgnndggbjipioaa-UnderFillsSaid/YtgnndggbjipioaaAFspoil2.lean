/- weftlaw18.framed, where a byte of a packet that is there is spoiled: it answers true. Conditions: the net stands whole. -/
import Derived.Test.YtgnndggbjipioaaAFspoil
namespace Go.Proofs.Ytgnndggbjipioaa
open Go.RowKit

/-- A byte of a list of its own is written. -/
theorem OwnB.set_ {F : Nat → Prop} {w : World} {bb cap x : Nat} {bs : List UInt8} (ho : OwnB F w (.slice (some ⟨bb, 0, none⟩) bs.length cap) bs) (hx : x < bs.length) (y : UInt8) :
    OwnB F (w.setCell ⟨bb, x, none⟩ (bv y)) (.slice (some ⟨bb, 0, none⟩) bs.length cap) (bs.set x y) := by
  refine ⟨?_, ho.foot, by simpa using ho.len⟩
  rcases ho.row.2 with ⟨_, h0⟩ | ⟨g', cap', cur, hv', _, hg, hnc, hcm, hcs, ht⟩
  · have h0' : bs.length = 0 := h0; omega
  injection hv' with hA _ hcc
  injection hA with hA
  injection hA with hA
  subst hA; subst hcc
  refine ⟨by simp, .inr ⟨bb, cap, _, by simp, Nat.zero_le _, heap_setCell hg _, by simpa using hnc, hcm, by simpa using hcs, ?_⟩⟩
  simp only [Array.toList_setIfInBounds, List.length_set]
  rw [List.take_set, ht]
  simp [List.map_set]

/-- Bytes of its own, where there are some. -/
theorem OwnB.block_ {F : Nat → Prop} {w : World} {v : Value} {x : Nat} {bs : List UInt8} (ho : OwnB F w v bs) (hx : x < bs.length) :
    ∃ bb cap cur, v = .slice (some ⟨bb, 0, none⟩) bs.length cap ∧ F bb ∧ bs.length ≤ cap ∧ w.heap[bb]? = some (.cells cur 5 (0, 0)) ∧ w.cell? ⟨bb, x, none⟩ = some (bv bs[x]) := by
  rcases ho.row.2 with ⟨_, h0⟩ | ⟨bb, cap, cur, hv', _, hgb, hnc, hcm, hcs, ht⟩
  · have h0' : bs.length = 0 := h0; omega
  refine ⟨bb, cap, cur, hv', ho.foot bb (by rw [hv']; rfl), hnc, hgb, ?_⟩
  rw [cell_of_heap hgb]
  have e : (cur.toList.take (bs.length * 1))[x]? = (bs.map bv)[x]? := by rw [ht]
  rw [List.getElem?_take, if_pos (by omega)] at e
  simpa [hx] using e

/-- A list that was asked for, where there is something in it. -/
def PostOwnL (w : World) (ps : List Pk) (e : Ending) (w' : World) : Prop :=
  ∃ b c cs, e = .returned (.slice (some ⟨b, 0, none⟩) ps.length c) ∧ ps.length ≤ c ∧ w.heap.size ≤ b ∧ w'.heap[b]? = some (.cells cs 48 (0, 0)) ∧ Pks (fun k => w.heap.size ≤ k) w' (some ⟨b, 0, none⟩) ps ∧ Old w w'

theorem list_own {F : Nat → Prop} {w : World} {g lim : Nat} {ps : List Pk} (h : NetU F w g lim ps) (h0 : 0 < ps.length) : Calls Try.prog 32 #[.pointer (some ⟨g, 0, none⟩)] w (PostOwnL w ps) := by
  have hr := h.room
  have hm := h.most
  obtain ⟨L, q, hN, rfl⟩ := h
  refine (ulist_any w F g lim L q hN).mono ?_
  rintro e w1 ⟨v, r, rfl, hf, he, hold⟩
  have hl : r.length = (q.map (·.1)).length := by rw [← he]; simp
  have hr0 : 0 < r.length := by omega
  obtain ⟨b, c, A', c', hLe, h1, h2, h3, _⟩ := hf.at_ hr0
  subst hLe
  obtain ⟨_, hc, _, hb, rest, hblk, _⟩ := flight_block hf hr0
  have hp := hf.pks (by omega)
  rw [he] at hp
  exact ⟨b, c, _, by rw [hl], by omega, hb, hblk, hp, hold⟩

/-- In a list of packets one packet's bytes are put in another's place. -/
theorem Pks.set_ {S T : Nat → Prop} {w : World} {b o c c2 j : Nat} {A2 Ao : Option Addr} {n2 : Nat} {ps : List Pk} {bs : List UInt8} (h : Pks S w (some ⟨b, o, none⟩) ps) (hj : j < ps.length)
    (hold : w.cell? ⟨b, o + j * 2 + 1, none⟩ = some (.slice Ao n2 c)) (hb : Bts T w A2 bs) (hc2 : bs.length ≤ c2) :
    Pks (fun k => S k ∨ T k) (w.setCell ⟨b, o + j * 2 + 1, none⟩ (.slice A2 bs.length c2)) (some ⟨b, o, none⟩) (ps.set j (ps[j].1, bs)) := by
  have other : ∀ p : Addr, p ≠ ⟨b, o + j * 2 + 1, none⟩ → (w.setCell ⟨b, o + j * 2 + 1, none⟩ (.slice A2 bs.length c2)).cell? p = w.cell? p := fun p hp => World.cell?_setCell_other _ _ _ _ (fun h => hp h.symm)
  have bts : ∀ (X : Nat → Prop) (B : Option Addr) (xs : List UInt8), Bts X w B xs → Bts X (w.setCell ⟨b, o + j * 2 + 1, none⟩ (.slice A2 bs.length c2)) B xs := fun X B xs hx => ⟨hx.1, fun hn => by
    obtain ⟨b', o', e, hX, hcl⟩ := hx.2 hn
    refine ⟨b', o', e, hX, fun k hk => ?_⟩
    rw [other _ ?_]
    · exact hcl k hk
    · intro e'
      have := hcl k hk
      rw [e', hold] at this
      injection this with this
      simp [bv] at this⟩
  refine ⟨by simpa using h.1, fun _ => ?_⟩
  obtain ⟨b', o', e, hs, hcl⟩ := h.2 (by rintro rfl; simp at hj)
  cases e
  refine ⟨b, o, rfl, .inl hs, fun i hi => ?_⟩
  have hi' : i < ps.length := by simpa using hi
  obtain ⟨A', c', g0, g1, g2, g3⟩ := hcl i hi'
  by_cases hij : j = i
  · subst hij
    simp only [List.getElem_set_self]
    refine ⟨A2, c2, ?_, ?_, hc2, (bts _ _ _ hb).1, fun hn => ?_⟩
    · rw [other _ (by simp)]; exact g0
    · exact World.cell?_setCell_same _ _ _ hold
    · obtain ⟨x1, x2, x3, x4, x5⟩ := (bts _ _ _ hb).2 hn
      exact ⟨x1, x2, x3, .inr x4, x5⟩
  · rw [List.getElem_set_ne hij]
    refine ⟨A', c', ?_, ?_, g2, (bts _ _ _ g3).1, fun hn => ?_⟩
    · rw [other _ (by intro e; injection e with _ e; omega)]; exact g0
    · rw [other _ (by intro e; injection e with _ e; omega)]; exact g1
    · obtain ⟨x1, x2, x3, x4, x5⟩ := (bts _ _ _ g3).2 hn
      exact ⟨x1, x2, x3, .inl x4, x5⟩

theorem fspoilS_yes' {j a : Nat} {m : UInt8} {ps : List Pk} {t : Int} {bs : List UInt8} (h : j < ps.length) (hp : ps[j] = (t, bs)) (ha : a < bs.length) (hm : m ≠ 0) : spoilS j a m ps = (0, ps.set j (t, bs.set a (bs[a] ^^^ m))) := by
  have h2 := fspoilS_yes (a := a) (m := m) h (by rw [hp]; exact ha) hm
  simp only [hp] at h2
  exact h2

set_option maxRecDepth 10000 in
set_option maxHeartbeats 4000000 in
theorem framed_spoil_yes (w : World) (F : Nat → Prop) (g lim : Nat) (ps : List Pk) (j : Nat) (a : Nat) (m : UInt8) (A : Option Addr) (n c : Nat) (hN : NetU F w g lim ps) (hj : j < ps.length) (t : Int) (bs : List UInt8) (hp : ps[j] = (t, bs)) (ha : a < bs.length) (hm : m ≠ 0) :
    Calls Try.prog 26 #[.pointer (some ⟨g, 0, none⟩), .agg #[.int .i64 5, .slice A n c, .int .i64 (j : Int), .int .i64 (a : Int), .int .u8 m.toNat], .int .i64 (lim : Int)] w (PostFr F w g lim) := by
  have k0 : Old w (w.alloc (.cells #[.int .i64 5, .slice A n c, .int .i64 (j : Int), .int .i64 (a : Int), .int .u8 m.toNat] 36)) := (Keeps.refl _ _).alloc _
  have hbx : (w.alloc (.cells #[.int .i64 5, .slice A n c, .int .i64 (j : Int), .int .i64 (a : Int), .int .u8 m.toNat] 36)).heap[w.heap.size]? = some (.cells #[.int .i64 5, .slice A n c, .int .i64 (j : Int), .int .i64 (a : Int), .int .u8 m.toNat] 36 (0, 0)) := heap_alloc_new _ _
  have hFlt := hN.lt
  have hroom := hN.room
  have hmost := hN.most
  have hps : ps.length ≤ 4096 := by omega
  have hlen := hN.len _ (List.getElem_mem hj)
  rw [hp] at hlen
  have ht0 := fspoilS_yes' (a := a) (m := m) hj hp ha hm
  have hpj := hid hp
  clear hp
  have hm0 : ((m.toNat : Int) == 0) = false := by
    rw [beq_eq_false_iff_ne]
    intro h
    exact hm (UInt8.toNat_inj.1 (by simpa using h))
  clear hm
  go_enter Try.func26, Try.ntmps26
  go_wp2_with fail
  refine (list_own (hN.keep (k0.old F)) (by omega)).mono ?_
  rintro e w1 ⟨b, c1, cs, rfl, hc1, hbl, hblk, hP1, k1⟩
  have k01 := k0.trans' k1
  have hb1 := k1.heap hbx trivial
  have x0 : w1.cell? ⟨w.heap.size, 0, none⟩ = some (.int .i64 5) := cell_of_heap hb1
  have x2 : w1.cell? ⟨w.heap.size, 2, none⟩ = some (.int .i64 (j : Int)) := cell_of_heap hb1
  have x3 : w1.cell? ⟨w.heap.size, 3, none⟩ = some (.int .i64 (a : Int)) := cell_of_heap hb1
  have x4 : w1.cell? ⟨w.heap.size, 4, none⟩ = some (.int .u8 m.toNat) := cell_of_heap hb1
  have ht := spoil_net (hN.keep (k01.old F)) (j : Int) (a : Int) m
  rw [ht0] at ht
  go_wp2_with fail
  refine ht.mono ?_
  clear ht x0 x2 x3 x4 hbx
  rintro e w2 ⟨rfl, F2, hN2, hF2, hK2⟩
  have hl := list_net hN2
  go_wp2_with fail
  refine hl.mono ?_
  clear hl
  rintro e w3 ⟨A3, c3, rfl, hc3, hP3, k23⟩
  have hz0 : (w.alloc (.cells #[.int .i64 5, .slice A n c, .int .i64 (j : Int), .int .i64 (a : Int), .int .u8 m.toNat] 36)).heap.size = w.heap.size + 1 := by simp
  have hz1 := k01.size
  have hz1' := k1.size
  have hz2 := hK2.size
  have hz3 := k23.size
  have hbl1 := lt_of_heap hblk
  have hbx3 := (k23.heap (hK2.heap hb1 fun h => Nat.lt_irrefl _ (hFlt _ h)) trivial)
  have hblk3 := (k23.heap (hK2.heap hblk fun h => by have := hFlt _ h; omega) trivial)
  have x2 : w3.cell? ⟨w.heap.size, 2, none⟩ = some (.int .i64 (j : Int)) := cell_of_heap hbx3
  have x3 : w3.cell? ⟨w.heap.size, 3, none⟩ = some (.int .i64 (a : Int)) := cell_of_heap hbx3
  have x4 : w3.cell? ⟨w.heap.size, 4, none⟩ = some (.int .u8 m.toNat) := cell_of_heap hbx3
  have hFF : ∀ k, F2 k → F k ∨ w.heap.size ≤ k := fun k h => (hF2 k h).imp id fun h => by omega
  have hP1' := (hP1.keep (hK2.mono fun k _ h hf => by have := hFlt k hf; simp at h; omega)).keep (k23.old _)
  have hK3 : Keeps (fun k => ¬ F k) w w3 := ((k01.old _).trans' hK2).trans' (k23.old _)
  obtain ⟨b', o, A', c', hA, _, h0, h1, h2, h3⟩ := hP1'.at_ hj
  injection hA with hA
  injection hA with hA1 hA2 _
  subst hA1 hA2
  simp only [Nat.zero_add] at h0 h1
  rw [hpj.out] at h0 h1 h2 h3
  simp only at h0 h1 h2 h3 hlen
  clear ht0
  have i1 : (0 : Int) ≤ (j : Int) := by omega
  have i2 : (j : Int) < (ps.length : Int) := by omega
  have i3 : (a : Int) < (bs.length : Int) := by omega
  have i4 : (0 : Int) ≤ (a : Int) := by omega
  have HZ := hid (And.intro hz0 (And.intro hz1 (And.intro hz1' (And.intro hz2 (And.intro hz3 hbl1)))))
  clear hz0 hz1 hz1' hz2 hz3 hbl1
  go_wp2
  go_quiet (fail)
  have hcl := aown_any (w3.drewN nq) _ A' c' bs (h3.keep ((Keeps.refl _ _).drewN _)) hlen
  go_wp2_with fail
  refine hcl.mono ?_
  clear hcl
  rintro e w4 ⟨v, rfl, hv, k4⟩
  obtain ⟨bb, cap, cur, rfl, hFb, hcap, hgb, hcx⟩ := hv.block_ (x := a) (by omega)
  go_wp2
  have k34 : Old w3 w4 := k4.ofDrewN
  have hx3 : w4.cell? ⟨w.heap.size, 3, none⟩ = some (.int .i64 (a : Int)) := (k34.cell (lt_of_cell x3) trivial).trans x3
  have hx2 : w4.cell? ⟨w.heap.size, 2, none⟩ = some (.int .i64 (j : Int)) := (k34.cell (lt_of_cell x2) trivial).trans x2
  have hx4 : w4.cell? ⟨w.heap.size, 4, none⟩ = some (.int .u8 m.toNat) := (k34.cell (lt_of_cell x4) trivial).trans x4
  have hblk4 := k34.heap hblk3 trivial
  have hy : w4.cell? ⟨bb, a, none⟩ = some (.int .u8 (bs[a].toNat : Int)) := hcx
  have hfz : w4.frozen? ⟨bb, a, none⟩ = false := frozen_of_heap hgb
  have hfb : w3.heap.size ≤ bb := by simpa using hFb
  refine wp_region_plan (fun w' => w'.cell? ⟨w.heap.size, 3, none⟩ = some (.int .i64 (a : Int)) ∧ w'.cell? ⟨w.heap.size, 4, none⟩ = some (.int .u8 m.toNat) ∧ w'.cell? ⟨bb, a, none⟩ = some (.int .u8 (bs[a].toNat : Int))) (List.replicate 12 true) (by kernel_rfl) (by kernel_rfl) ⟨hx3, hx4, hy⟩ ?_
  iterate 12 (refine plan_take (v := ?_) (by rfl) (fun w' hS => ?_) ?_; rotate_left 1; (obtain ⟨s0, s1, s2⟩ := hS; go_simp <;> (try rw [if_pos (by omega)]) <;> (try with_reducible rfl)); (simp only [Act.put, List.setIfInBounds_toArray, List.set_cons_zero, List.set_cons_succ]))
  rw [xor_u8]
  refine plan_tail ?_
  go_wp2
  refine NoPanic.normal ?_
  have hbs : bs.length = (bs.set a (bs[a] ^^^ m)).length := by simp
  obtain ⟨W5, hW5⟩ : ∃ W5, W5 = (w4.setCell ⟨bb, a, none⟩ (.int .u8 ↑(bs[a].toNat ^^^ m.toNat))).drew := ⟨_, rfl⟩
  rw [← hW5]
  have ow5 : OwnB (fun k => w3.heap.size ≤ k) W5 (.slice (some ⟨bb, 0, none⟩) bs.length cap) (bs.set a (bs[a] ^^^ m)) := by
    subst hW5
    have := hv.set_ (by omega) (bs[a] ^^^ m)
    unfold bv at this
    rw [UInt8.toNat_xor] at this
    exact (this.mono fun k _ h => by simpa using h).keep ((Keeps.refl _ _).drew)
  have K45 : Keeps (· ≠ bb) w4 W5 := by subst hW5; exact ((Keeps.refl _ _).setCell (fun _ h => h rfl) _).drew
  clear hW5
  have hz3 : w3.heap.size ≤ w4.heap.size := k34.size
  have hbb : b ≠ bb := by have := lt_of_heap hblk3; omega
  have hblk5 := K45.heap hblk4 hbb
  have g1 : W5.cell? ⟨b, j * 2 + 1, none⟩ = some (.slice A' bs.length c') := (K45.cell (lt_of_heap hblk4) hbb).trans ((k34.cell (lt_of_cell h1) trivial).trans h1)
  have g2 : W5.cell? ⟨w.heap.size, 2, none⟩ = some (.int .i64 (j : Int)) := (K45.cell (lt_of_cell hx2) (by show w.heap.size ≠ bb; have := lt_of_cell x2; simp at this; omega)).trans hx2
  have gf : W5.frozen? ⟨b, j * 2 + 1, none⟩ = false := frozen_of_heap hblk5
  have hP5 := hP1'.keep ((k34.old _).trans K45 fun k hk _ e => by omega)
  have hP35 := hP3.keep ((k34.old _).trans K45 fun k hk _ e => by omega)
  have hb5 : Bts (fun k => w3.heap.size ≤ k) W5 (some ⟨bb, 0, none⟩) (bs.set a (bs[a] ^^^ m)) := OwnB.bts (by rw [← hbs]; exact ow5)
  have hset := Pks.set_ (A2 := some ⟨bb, 0, none⟩) (bs := bs.set a (bs[a] ^^^ m)) (c2 := cap) hP5 hj (by simpa using g1) hb5 (by omega)
  rw [hpj.out, ← hbs, Nat.zero_add] at hset
  simp only at hset
  have K56 : Keeps (· ≠ b) W5 (W5.setCell ⟨b, j * 2 + 1, none⟩ (.slice (some ⟨bb, 0, none⟩) bs.length cap)) := (Keeps.refl _ _).setCell (fun _ h => h rfl) _
  have hP36 := hP3.keep (((k34.old _).trans K45 fun k hk _ e => by omega).trans K56 fun k hk h e => by have := HZ.out; omega)
  have hN6 := (hN2.keep (k23.old _)).keep (((k34.old _).trans K45 fun k hk _ e => by omega).trans K56 fun k hk h e => by
    have := HZ.out
    rcases hF2 k h with h | h
    · have := hFlt k h; omega
    · omega)
  have hK6 : Keeps (fun k => ¬ F k) w (W5.setCell ⟨b, j * 2 + 1, none⟩ (.slice (some ⟨bb, 0, none⟩) bs.length cap)) := ((hK3.trans' (k34.old _)).trans K45 fun k hk _ e => by have := HZ.out; omega).trans K56 fun k hk h e => by have := HZ.out; omega
  have hsm := sents_len (W5.setCell ⟨b, j * 2 + 1, none⟩ (.slice (some ⟨bb, 0, none⟩) bs.length cap)) _ _ (some ⟨b, 0, none⟩) A3 c1 c3 ps.length ps.length _ _ (by simp) (by simp) hset hP36 true (decide_eq_true rfl)
  clear hset hP5 hP35 hP36 hP3 hP1 hP1' hb5 hbs
  go_wp2_with fail
  refine hsm.mono ?_
  rintro e w7 ⟨rfl, n2, rfl⟩
  go_wp2
  go_ret
  exact ⟨rfl, F2, _, hN6.keep (by simpa using (Keeps.refl _ _).drewN _), hFF, hK6.trans' (by simpa using (Keeps.refl _ _).drewN _)⟩
end Go.Proofs.Ytgnndggbjipioaa
