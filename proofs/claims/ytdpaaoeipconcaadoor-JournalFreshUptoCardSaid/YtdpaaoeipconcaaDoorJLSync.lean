/- journal.Log.Sync: all that is written lies down: syncJ. Conditions: the journal lies; not too many writes are waiting. -/
import Derived.Test.YtdpaaoeipconcaaDoorJLCrash
import Derived.Test.YtdpaaoeipconcaaDoorMPlan
namespace Go.Proofs.YtdpaaoeipconcaaDoor
open Go.RowKit

section
variable {F : Nat → Prop} {w w8 : World} {g : Nat} {vA vB vP v8 : Value} {q : List (Wr × Value)} {j : Jn} {d1 : List UInt8}
/-- Area A is another row now. -/
theorem LRaw.layA (h : LRaw F w g vA vB vP q j) (K : Keeps (fun k => vA.ownBlock ≠ some k) w w8) (hown : w8.ownsRow 0 5 1 v8 d1.length (d1.map bv)) (hat : ∀ k, v8.ownBlock = some k → vA.ownBlock = some k ∨ k = w.heap.size) (hl : d1.length ≤ 281474976710656) :
    LRaw (fun k => F k ∨ v8.ownBlock = some k) (w8.setCell ⟨g, 0, none⟩ v8) g v8 vB vP q { j with dA := d1 } := by
  have hh := K.heap h.head (own_ne_heap h.a.row h.head (by decide))
  have KS : Keeps (· ≠ g) w8 (w8.setCell ⟨g, 0, none⟩ v8) := (Keeps.refl _ _).setCell (fun _ h => h rfl) _
  have KB : Keeps (fun k => k ≠ g ∧ vA.ownBlock ≠ some k) w (w8.setCell ⟨g, 0, none⟩ v8) := (K.mono fun _ _ h => h.2).trans KS fun _ _ h => h.1
  have ng : ∀ {v : Value} {n : Nat} {xs : List Value}, w.ownsRow 0 5 1 v n xs → ∀ k, v.ownBlock = some k → k ≠ g := fun hx k hk e => own_ne_heap hx h.head (by decide) (by rw [hk, e])
  have hnew := own_keeps hown KS (fun k hk e => own_ne_heap hown hh (by decide) (by rw [hk, e]))
  have olt : ∀ {v : Value} {n : Nat} {xs : List Value}, w.ownsRow 0 5 1 v n xs → ∀ k, v.ownBlock = some k → k < w.heap.size := fun hx k hk => own_lt hx hk
  refine ⟨?_, ⟨hnew, fun k hk => .inr hk, hl⟩, ⟨own_keeps h.b.row KB (fun k hk => ⟨ng h.b.row k hk, fun e => h.ab k e hk⟩), fun k hk => .inl (h.b.foot k hk), h.b.len⟩,
    ⟨own_keeps h.p.row KB (fun k hk => ⟨fun e => own_ne_heap h.p.row h.head (by decide) (by rw [hk, e]), own_ne h.p.row h.a.row (by decide) hk⟩),
      fun x hx => ⟨own_keeps (h.p.own x hx).row KB (fun k hk => ⟨ng (h.p.own x hx).row k hk, (h.ap x hx k hk).1⟩), fun k hk => .inl ((h.p.own x hx).foot k hk), (h.p.own x hx).len⟩, fun k hk => .inl (h.p.foot k hk)⟩, h.pq, ?_, ?_, .inl h.fg, ?_⟩
  · rw [heap_setCell hh]
    rfl
  · intro k h1 h2
    rcases hat k h1 with e | e
    · exact h.ab k e h2
    · have := olt h.b.row k h2; omega
  · intro x hx k hk
    refine ⟨fun e => ?_, (h.ap x hx k hk).2⟩
    rcases hat k e with e | e
    · exact (h.ap x hx k hk).1 e
    · have := olt (h.p.own x hx).row k hk; omega
  · rintro k (hk | hk)
    · exact Nat.lt_of_lt_of_le (h.lt k hk) KB.size
    · exact own_lt hnew hk
/-- Area B is another row now. -/
theorem LRaw.layB (h : LRaw F w g vA vB vP q j) (K : Keeps (fun k => vB.ownBlock ≠ some k) w w8) (hown : w8.ownsRow 0 5 1 v8 d1.length (d1.map bv)) (hat : ∀ k, v8.ownBlock = some k → vB.ownBlock = some k ∨ k = w.heap.size) (hl : d1.length ≤ 281474976710656) :
    LRaw (fun k => F k ∨ v8.ownBlock = some k) (w8.setCell ⟨g, 1, none⟩ v8) g vA v8 vP q { j with dB := d1 } := by
  have hh := K.heap h.head (own_ne_heap h.b.row h.head (by decide))
  have KS : Keeps (· ≠ g) w8 (w8.setCell ⟨g, 1, none⟩ v8) := (Keeps.refl _ _).setCell (fun _ h => h rfl) _
  have KB : Keeps (fun k => k ≠ g ∧ vB.ownBlock ≠ some k) w (w8.setCell ⟨g, 1, none⟩ v8) := (K.mono fun _ _ h => h.2).trans KS fun _ _ h => h.1
  have ng : ∀ {v : Value} {n : Nat} {xs : List Value}, w.ownsRow 0 5 1 v n xs → ∀ k, v.ownBlock = some k → k ≠ g := fun hx k hk e => own_ne_heap hx h.head (by decide) (by rw [hk, e])
  have hnew := own_keeps hown KS (fun k hk e => own_ne_heap hown hh (by decide) (by rw [hk, e]))
  have olt : ∀ {v : Value} {n : Nat} {xs : List Value}, w.ownsRow 0 5 1 v n xs → ∀ k, v.ownBlock = some k → k < w.heap.size := fun hx k hk => own_lt hx hk
  refine ⟨?_, ⟨own_keeps h.a.row KB (fun k hk => ⟨ng h.a.row k hk, fun e => h.ab k hk e⟩), fun k hk => .inl (h.a.foot k hk), h.a.len⟩, ⟨hnew, fun k hk => .inr hk, hl⟩,
    ⟨own_keeps h.p.row KB (fun k hk => ⟨fun e => own_ne_heap h.p.row h.head (by decide) (by rw [hk, e]), own_ne h.p.row h.b.row (by decide) hk⟩),
      fun x hx => ⟨own_keeps (h.p.own x hx).row KB (fun k hk => ⟨ng (h.p.own x hx).row k hk, (h.ap x hx k hk).2⟩), fun k hk => .inl ((h.p.own x hx).foot k hk), (h.p.own x hx).len⟩, fun k hk => .inl (h.p.foot k hk)⟩, h.pq, ?_, ?_, .inl h.fg, ?_⟩
  · rw [heap_setCell hh]
    rfl
  · intro k h1 h2
    rcases hat k h2 with e | e
    · exact h.ab k h1 e
    · have := olt h.a.row k h1; omega
  · intro x hx k hk
    refine ⟨(h.ap x hx k hk).1, fun e => ?_⟩
    rcases hat k e with e | e
    · exact (h.ap x hx k hk).2 e
    · have := olt (h.p.own x hx).row k hk; omega
  · rintro k (hk | hk)
    · exact Nat.lt_of_lt_of_le (h.lt k hk) KB.size
    · exact own_lt hnew hk
end

theorem layAll_take (ws : List Wr) (d : Dk) {k : Nat} (h : k < ws.length) : layAll (ws.take (k + 1)) d = lay (layAll (ws.take k) d) ws[k] := by
  rw [List.take_succ_eq_append_getElem h, layAll_push]

/-- ahead of a round of Sync -/
def InSy (w : World) (F : Nat → Prop) (g : Nat) (vP : Value) (q : List (Wr × Value)) (j : Jn) (iv : Value) (wr : World) : Prop :=
  ∃ (k : Nat) (d : Dk) (vA vB : Value) (F' : Nat → Prop), iv = .int .i64 k ∧ k ≤ j.ws.length ∧ layAll (j.ws.take k) (j.dA, j.dB) = d ∧ Fits (j.ws.drop k) d ∧ d.1.length ≤ 1048576 ∧ d.2.length ≤ 1048576 ∧
    LRaw F' wr g vA vB vP q { j with dA := d.1, dB := d.2 } ∧ (∀ k, F' k → F k ∨ w.heap.size ≤ k) ∧ Keeps (fun k => ¬ F k) w wr

set_option maxHeartbeats 4000000 in
theorem lsync_any (w : World) (F : Nat → Prop) (g : Nat) (vA vB vP : Value) (q : List (Wr × Value)) (j : Jn) (h : LNet F w g vA vB vP q j) (hw : j.ws.length ≤ 4000000000000) :
    Calls Tryd.prog 30 #[.pointer (some ⟨g, 0, none⟩)] w fun e w' => e = .returned (.tuple #[]) ∧ ∃ F' vA' vB', LNet F' w' g vA' vB' (.slice none 0 0) [] (syncJ j) ∧ (∀ k, F' k → F k ∨ w.heap.size ≤ k) ∧ Keeps (fun k => ¬ F k) w w' := by
  have hG := h.good
  have hql : q.length = j.ws.length := by rw [← h.pq]; simp
  obtain ⟨AP, cP, hvP, _, _⟩ := own_slice h.p.row
  rw [hql] at hvP
  subst hvP
  have HQ := hid hql
  have HPQ := hid h.pq
  clear hql
  have c2 : w.cell? ⟨g, 2, none⟩ = some (.slice AP j.ws.length cP) := cell_of_heap h.head
  have HAT := hid (show InSy w F g (.slice AP j.ws.length cP) q j (.int .i64 0) w from ⟨0, (j.dA, j.dB), vA, vB, F, rfl, Nat.zero_le _, rfl, hG.fits, hG.la, hG.lb, h.raw, fun _ hk => .inl hk, Keeps.refl _ _⟩)
  have hFg := h.fg
  go_enter Tryd.func30, Tryd.ntmps30
  go_wp2
  go_loopw [3, 4, 10] (fun _ _ iv wr => InSy w F g (.slice AP j.ws.length cP) q j iv wr) (fun _ _ i _ => j.ws.length - (intOf i).toNat)
  case atStart => exact HAT.out
  case round =>
    clear HAT c2
    obtain ⟨k, d, vA2, vB2, F2, rfl, hk, hlay, hfit, hla, hlb, hr, hF2, hKr⟩ := hrel
    obtain ⟨A2, ca2, hvA, hca2, _⟩ := hr.a.slice
    obtain ⟨B2, cb2, hvB, hcb2, _⟩ := hr.b.slice
    simp only at hvA hvB hca2 hcb2
    subst hvA hvB
    have HLAY := hid hlay
    clear hlay
    by_cases hlt : k < j.ws.length
    · obtain ⟨b, c, A', c', hL, -, -, -, -, e0, e1, e2, hc', hbt⟩ := hr.p.at_ (i := k) (by rw [HQ.out]; exact hlt)
      injection hL with hAP hz1 hz2
      clear hz1 hz2
      subst hAP
      have hqk : (q[k]'(by rw [HQ.out]; exact hlt)).1 = j.ws[k] := by
        have : (q.map (·.1))[k]'(by simp; rw [HQ.out]; exact hlt) = j.ws[k] := by simp only [HPQ.out]
        rw [← this]; simp
      rw [hqk] at e0 e1 e2 hc' hbt
      have hlt2 := layAll_take j.ws (j.dA, j.dB) hlt
      rw [HLAY.out] at hlt2
      obtain ⟨x, hx⟩ : ∃ x, x = j.ws[k] := ⟨_, rfl⟩
      rw [← hx] at e0 e1 e2 hc' hbt hlt2
      have hdrop : j.ws.drop k = x :: j.ws.drop (k + 1) := by rw [hx]; exact List.drop_eq_getElem_cons hlt
      have hxl := hG.wl x (by rw [hx]; exact List.getElem_mem hlt)
      rw [hdrop] at hfit
      obtain ⟨ha1, hne, hat, hft'⟩ := hfit
      have HST := hid (And.intro hlt2 hft')
      clear hx hqk hdrop hlt2 hft'
      have i1 : (0 : Int) ≤ (k : Int) := by omega
      have i2 : (k : Int) < (j.ws.length : Int) := by omega
      obtain ⟨W1, hW1⟩ : ∃ W, W = wr.alloc (.cells #[.int .i64 (x.area : Int), .int .i64 (x.at_ : Int), .slice A' x.bytes.length c'] 99) := ⟨_, rfl⟩
      have kW : Old wr W1 := by rw [hW1]; exact (Keeps.refl _ _).alloc _
      have hb7 : W1.heap[wr.heap.size]? = some (.cells #[.int .i64 (x.area : Int), .int .i64 (x.at_ : Int), .slice A' x.bytes.length c'] 99 (0, 0)) := by rw [hW1]; exact heap_alloc_new _ _
      have m0 : W1.cell? ⟨wr.heap.size, 0, none⟩ = some (.int .i64 (x.area : Int)) := cell_of_heap hb7
      have m1 : W1.cell? ⟨wr.heap.size, 1, none⟩ = some (.int .i64 (x.at_ : Int)) := cell_of_heap hb7
      have m2 : W1.cell? ⟨wr.heap.size, 2, none⟩ = some (.slice A' x.bytes.length c') := cell_of_heap hb7
      have hr1 := hr.keep (kW.old _)
      have hh1 := hr1.head
      have n0 : W1.cell? ⟨g, 0, none⟩ = some (.slice A2 d.1.length ca2) := cell_of_heap hh1
      have n1 : W1.cell? ⟨g, 1, none⟩ = some (.slice B2 d.2.length cb2) := cell_of_heap hh1
      have HAT2 := hid hat
      clear hat
      go_upto_region 3 with fail
      rw [← hW1]
      clear hW1
      have hat := HAT2.out
      clear HAT2
      by_cases ha : x.area = 0
      · rw [ha] at m0
        have hlay : lay d x = (d.1.take x.at_ ++ x.bytes, d.2) := by simp [lay, ha]
        have hat2 : x.at_ ≤ d.1.length := by simpa [ha] using hat
        have y1 : x.at_ ≤ ca2 := by omega
        have y2 : (x.at_ : Int) ≤ (ca2 : Int) := by omega
        have y5 : (0 : Int) ≤ (x.at_ : Int) := by omega
        have y8 : ¬ d.1.length < x.at_ := by omega
        have hcut := (hr1.a).cut hat2
        have hll : (d.1.take x.at_ ++ x.bytes).length = x.at_ + x.bytes.length := by simp; omega
        have htl : (d.1.take x.at_).length = x.at_ := by simp; omega
        have HLL := hid (And.intro hll htl)
        have HLAY2 := hid hlay
        clear hll hlay hat htl
        go_wp2
        go_quiet (fail)
        go_upto_region 4 with fail
        have kq : Old W1 (W1.drewN nq) := (Keeps.refl _ _).drewN _
        refine wp_region_tree (fun w' => w'.cell? ⟨wr.heap.size, 0, none⟩ = some (.int .i64 0) ∧ w'.cell? ⟨wr.heap.size, 1, none⟩ = some (.int .i64 (x.at_ : Int)) ∧ w'.cell? ⟨wr.heap.size, 2, none⟩ = some (.slice A' x.bytes.length c')) 17
          (.take 0 (.take 1 (.take 2 (.take 3 (.take 4 (.take 5 (.take 6 (.take 7 (.take 8 (.take 9 (.take 10 (.take 11 (.take 13 (.take 14 (.one 12 (.take 15 (.one 16 .tail))))))))))))))))) (by kernel_rfl) (by kernel_rfl) ⟨m0, m1, m2⟩ ?_
        iterate 14 (refine pt_take (v := ?_) (by rfl) (by first | rfl | kernel_rfl) (fun w' hS => ?_) ?_; rotate_left 1; (obtain ⟨s1, s2, s3⟩ := hS; go_simp <;> (try rw [if_pos (by omega)]) <;> (try with_reducible rfl)); (simp only [Act.put, List.setIfInBounds_toArray, List.set_cons_zero, List.set_cons_succ]))
        refine pt_one (by rfl) (loudly_of (by first | rfl | kernel_rfl) (fun K hK => ?_))
        have kd : Old W1 (W1.drewN nq).drew := kq.drew
        have hrow := (hcut.keep (kd.old _)).row
        rw [HLL.out.2] at hrow
        refine wp_append_ex (W1.drewN nq).drew _ _ 22 5 (by rfl) Tryd.underlying22 info5 (by rfl) (by omega) (by rfl) hrow A' x.bytes.length c' (x.bytes.map bv) (by rfl) (by simp) (fun h => (by obtain ⟨ad, e, _, h⟩ := (hbt.keep ((kW.trans' kd).old _)).src (by simpa using h); exact ⟨ad, e, h⟩)) (bv_one _) (by omega) (by unfold maxLen; omega) ?_
        intro v8 w8 hown8 hgrow8 hat8
        simp only [Act.put, List.setIfInBounds_toArray, List.set_cons_zero, List.set_cons_succ]
        have hob : (Value.slice A2 x.at_ ca2).ownBlock = (Value.slice A2 d.1.length ca2).ownBlock := by cases A2 <;> rfl
        have k8 : Keeps (fun k => (Value.slice A2 x.at_ ca2).ownBlock ≠ some k) (W1.drewN nq).drew w8 := (Keeps.refl _ _).grown hgrow8 (fun k _ h hn => hn h)
        replace k8 : Keeps (fun k => (Value.slice A2 d.1.length ca2).ownBlock ≠ some k) W1 w8 := by
          have k8' := ((kd.old _).trans' k8)
          rw [hob] at k8'
          exact k8'
        have hrow8 : w8.ownsRow 0 5 1 v8 (d.1.take x.at_ ++ x.bytes).length ((d.1.take x.at_ ++ x.bytes).map bv) := by
          rw [HLL.out.1, List.map_append]; exact hown8
        have L := hr1.layA k8 hrow8 (fun k hk => by
          rcases hat8 with e | e
          · rw [e, hob] at hk; exact .inl hk
          · rw [e] at hk; injection hk with hk; right; exact hk.symm) (by rw [HLL.out.1]; omega)
        have hrb : ∀ {n : Nat} {cs : Array Value} {t : TypeId}, t ≠ 5 → W1.heap[n]? = some (.cells cs t (0, 0)) → (Value.slice A2 d.1.length ca2).ownBlock ≠ some n := fun ht hh => own_ne_heap (hr1.a).row hh (Ne.symm ht)
        have hb58 := k8.heap hh1 (hrb (by decide) hh1)
        have hb78 := k8.heap hb7 (hrb (by decide) hb7)
        have u0 : w8.cell? ⟨g, 0, none⟩ = some (.slice A2 d.1.length ca2) := cell_of_heap hb58
        have uf : ∀ i, w8.frozen? ⟨g, i, none⟩ = false := fun i => frozen_of_heap hb58
        have v0 : w8.cell? ⟨wr.heap.size, 0, none⟩ = some (.int .i64 0) := by rw [cell_of_heap hb78]; simp [ha]
        have v1 : w8.cell? ⟨wr.heap.size, 1, none⟩ = some (.int .i64 (x.at_ : Int)) := cell_of_heap hb78
        have v2 : w8.cell? ⟨wr.heap.size, 2, none⟩ = some (.slice A' x.bytes.length c') := cell_of_heap hb78
        refine hK _ _ ⟨v0, v1, v2⟩ ?_
        clear hK K
        obtain ⟨A8, c8, hv8, _, _⟩ := own_slice hown8
        have hso := hKr.size
        have hsW := kW.size
        have hfo : ∀ k, (Value.slice A2 d.1.length ca2).ownBlock = some k → F2 k := fun k hk => hr.a.foot k hk
        have RES : InSy w F g (.slice (some ⟨b, 0, none⟩) j.ws.length cP) q j (.int .i64 ((k + 1 : Nat) : Int)) (w8.setCell ⟨g, 0, none⟩ v8) := by
          have hs := HST.out
          rw [HLAY2.out] at hs
          refine ⟨k + 1, (d.1.take x.at_ ++ x.bytes, d.2), _, _, _, rfl, by omega, hs.1, hs.2, by simp only; rw [HLL.out.1]; omega, by exact hlb, L, ?_, ?_⟩
          · rintro k (hk | hk)
            · exact hF2 k hk
            · rcases hat8 with e | e
              · rw [e, hob] at hk; exact hF2 k (hfo k hk)
              · rw [e] at hk; injection hk with hk
                right
                have : W1.heap.size = k := hk
                omega
          · refine ((hKr.trans' (kW.old _)).trans k8 fun k hk hnF e => ?_).setCell (fun _ hk => hk hFg) _
            rcases hF2 k (hfo k e) with hh | hh
            · exact hnF hh
            · omega
        have RESH := hid RES
        clear RES L hrow8 hown8 hgrow8 hb58 hb78
        subst hv8
        (refine pt_take (v := ?_) (by rfl) (by first | rfl | kernel_rfl) (fun w' hS => ?_) ?_; rotate_left 1; (obtain ⟨s1, s2, s3⟩ := hS; go_simp <;> (try rw [if_pos (by omega)]) <;> (try with_reducible rfl)); (simp only [Act.put, List.setIfInBounds_toArray, List.set_cons_zero, List.set_cons_succ]))
        have hgw : g < wr.heap.size := lt_of_heap hr.head
        have KS : Keeps (· ≠ g) w8 (w8.setCell ⟨g, 0, none⟩ (.slice A8 (x.at_ + x.bytes.length) c8)) := (Keeps.refl _ _).setCell (fun _ h => h rfl) _
        refine pt_one (by rfl) (loudly_of (by first | rfl | kernel_rfl) (fun K hK => ?_))
        go_wp2
        refine hK _ _ ⟨(KS.cell (lt_of_cell v0) (by show wr.heap.size ≠ g; omega)).trans v0, (KS.cell (lt_of_cell v1) (by show wr.heap.size ≠ g; omega)).trans v1, (KS.cell (lt_of_cell v2) (by show wr.heap.size ≠ g; omega)).trans v2⟩ ?_
        clear hK K
        refine pt_tail (by rfl) ?_
        go_wp2
        refine NoPanic.normal ?_
        go_wp2
        exact ⟨RESH.out, by simp [intOf]; omega⟩
      · replace ha : x.area = 1 := by omega
        rw [ha] at m0
        have hlay : lay d x = (d.1, d.2.take x.at_ ++ x.bytes) := by simp [lay, ha]
        have hat2 : x.at_ ≤ d.2.length := by simpa [ha] using hat
        have y1 : x.at_ ≤ cb2 := by omega
        have y2 : (x.at_ : Int) ≤ (cb2 : Int) := by omega
        have y5 : (0 : Int) ≤ (x.at_ : Int) := by omega
        have y8 : ¬ d.2.length < x.at_ := by omega
        have hcut := (hr1.b).cut hat2
        have hll : (d.2.take x.at_ ++ x.bytes).length = x.at_ + x.bytes.length := by simp; omega
        have htl : (d.2.take x.at_).length = x.at_ := by simp; omega
        have HLL := hid (And.intro hll htl)
        have HLAY2 := hid hlay
        clear hll hlay hat htl
        go_wp2
        go_quiet (fail)
        go_upto_region 4 with fail
        have kq : Old W1 (W1.drewN nq) := (Keeps.refl _ _).drewN _
        refine wp_region_tree (fun w' => w'.cell? ⟨wr.heap.size, 0, none⟩ = some (.int .i64 1) ∧ w'.cell? ⟨wr.heap.size, 1, none⟩ = some (.int .i64 (x.at_ : Int)) ∧ w'.cell? ⟨wr.heap.size, 2, none⟩ = some (.slice A' x.bytes.length c')) 17
          (.take 0 (.take 1 (.take 2 (.take 3 (.take 4 (.take 5 (.take 6 (.take 7 (.take 8 (.take 9 (.take 10 (.take 11 (.take 13 (.take 14 (.one 12 (.take 15 (.one 16 .tail))))))))))))))))) (by kernel_rfl) (by kernel_rfl) ⟨m0, m1, m2⟩ ?_
        iterate 14 (refine pt_take (v := ?_) (by rfl) (by first | rfl | kernel_rfl) (fun w' hS => ?_) ?_; rotate_left 1; (obtain ⟨s1, s2, s3⟩ := hS; go_simp <;> (try rw [if_pos (by omega)]) <;> (try with_reducible rfl)); (simp only [Act.put, List.setIfInBounds_toArray, List.set_cons_zero, List.set_cons_succ]))
        refine pt_one (by rfl) (loudly_of (by first | rfl | kernel_rfl) (fun K hK => ?_))
        have kd : Old W1 (W1.drewN nq).drew := kq.drew
        have hrow := (hcut.keep (kd.old _)).row
        rw [HLL.out.2] at hrow
        refine wp_append_ex (W1.drewN nq).drew _ _ 22 5 (by rfl) Tryd.underlying22 info5 (by rfl) (by omega) (by rfl) hrow A' x.bytes.length c' (x.bytes.map bv) (by rfl) (by simp) (fun h => (by obtain ⟨ad, e, _, h⟩ := (hbt.keep ((kW.trans' kd).old _)).src (by simpa using h); exact ⟨ad, e, h⟩)) (bv_one _) (by omega) (by unfold maxLen; omega) ?_
        intro v8 w8 hown8 hgrow8 hat8
        simp only [Act.put, List.setIfInBounds_toArray, List.set_cons_zero, List.set_cons_succ]
        have hob : (Value.slice B2 x.at_ cb2).ownBlock = (Value.slice B2 d.2.length cb2).ownBlock := by cases B2 <;> rfl
        have k8 : Keeps (fun k => (Value.slice B2 x.at_ cb2).ownBlock ≠ some k) (W1.drewN nq).drew w8 := (Keeps.refl _ _).grown hgrow8 (fun k _ h hn => hn h)
        replace k8 : Keeps (fun k => (Value.slice B2 d.2.length cb2).ownBlock ≠ some k) W1 w8 := by
          have k8' := ((kd.old _).trans' k8)
          rw [hob] at k8'
          exact k8'
        have hrow8 : w8.ownsRow 0 5 1 v8 (d.2.take x.at_ ++ x.bytes).length ((d.2.take x.at_ ++ x.bytes).map bv) := by
          rw [HLL.out.1, List.map_append]; exact hown8
        have L := hr1.layB k8 hrow8 (fun k hk => by
          rcases hat8 with e | e
          · rw [e, hob] at hk; exact .inl hk
          · rw [e] at hk; injection hk with hk; right; exact hk.symm) (by rw [HLL.out.1]; omega)
        have hrb : ∀ {n : Nat} {cs : Array Value} {t : TypeId}, t ≠ 5 → W1.heap[n]? = some (.cells cs t (0, 0)) → (Value.slice B2 d.2.length cb2).ownBlock ≠ some n := fun ht hh => own_ne_heap (hr1.b).row hh (Ne.symm ht)
        have hb58 := k8.heap hh1 (hrb (by decide) hh1)
        have hb78 := k8.heap hb7 (hrb (by decide) hb7)
        have u0 : w8.cell? ⟨g, 1, none⟩ = some (.slice B2 d.2.length cb2) := cell_of_heap hb58
        have uf : ∀ i, w8.frozen? ⟨g, i, none⟩ = false := fun i => frozen_of_heap hb58
        have v0 : w8.cell? ⟨wr.heap.size, 0, none⟩ = some (.int .i64 1) := by rw [cell_of_heap hb78]; simp [ha]
        have v1 : w8.cell? ⟨wr.heap.size, 1, none⟩ = some (.int .i64 (x.at_ : Int)) := cell_of_heap hb78
        have v2 : w8.cell? ⟨wr.heap.size, 2, none⟩ = some (.slice A' x.bytes.length c') := cell_of_heap hb78
        refine hK _ _ ⟨v0, v1, v2⟩ ?_
        clear hK K
        obtain ⟨A8, c8, hv8, _, _⟩ := own_slice hown8
        have hso := hKr.size
        have hsW := kW.size
        have hfo : ∀ k, (Value.slice B2 d.2.length cb2).ownBlock = some k → F2 k := fun k hk => hr.b.foot k hk
        have RES : InSy w F g (.slice (some ⟨b, 0, none⟩) j.ws.length cP) q j (.int .i64 ((k + 1 : Nat) : Int)) (w8.setCell ⟨g, 1, none⟩ v8) := by
          have hs := HST.out
          rw [HLAY2.out] at hs
          refine ⟨k + 1, (d.1, d.2.take x.at_ ++ x.bytes), _, _, _, rfl, by omega, hs.1, hs.2, by exact hla, by simp only; rw [HLL.out.1]; omega, L, ?_, ?_⟩
          · rintro k (hk | hk)
            · exact hF2 k hk
            · rcases hat8 with e | e
              · rw [e, hob] at hk; exact hF2 k (hfo k hk)
              · rw [e] at hk; injection hk with hk
                right
                have : W1.heap.size = k := hk
                omega
          · refine ((hKr.trans' (kW.old _)).trans k8 fun k hk hnF e => ?_).setCell (fun _ hk => hk hFg) _
            rcases hF2 k (hfo k e) with hh | hh
            · exact hnF hh
            · omega
        have RESH := hid RES
        clear RES L hrow8 hown8 hgrow8 hb58 hb78
        subst hv8
        (refine pt_take (v := ?_) (by rfl) (by first | rfl | kernel_rfl) (fun w' hS => ?_) ?_; rotate_left 1; (obtain ⟨s1, s2, s3⟩ := hS; go_simp <;> (try rw [if_pos (by omega)]) <;> (try with_reducible rfl)); (simp only [Act.put, List.setIfInBounds_toArray, List.set_cons_zero, List.set_cons_succ]))
        have hgw : g < wr.heap.size := lt_of_heap hr.head
        have KS : Keeps (· ≠ g) w8 (w8.setCell ⟨g, 1, none⟩ (.slice A8 (x.at_ + x.bytes.length) c8)) := (Keeps.refl _ _).setCell (fun _ h => h rfl) _
        refine pt_one (by rfl) (loudly_of (by first | rfl | kernel_rfl) (fun K hK => ?_))
        go_wp2
        refine hK _ _ ⟨(KS.cell (lt_of_cell v0) (by show wr.heap.size ≠ g; omega)).trans v0, (KS.cell (lt_of_cell v1) (by show wr.heap.size ≠ g; omega)).trans v1, (KS.cell (lt_of_cell v2) (by show wr.heap.size ≠ g; omega)).trans v2⟩ ?_
        clear hK K
        refine pt_tail (by rfl) ?_
        go_wp2
        refine NoPanic.normal ?_
        go_wp2
        exact ⟨RESH.out, by simp [intOf]; omega⟩
    · obtain rfl : k = j.ws.length := by omega
      have hl2 := HLAY.out
      rw [List.take_length] at hl2
      have hh := hr.head
      have c2 : wr.cell? ⟨g, 2, none⟩ = some (.slice AP j.ws.length cP) := cell_of_heap hh
      have cf : ∀ i, wr.frozen? ⟨g, i, none⟩ = false := fun i => frozen_of_heap hh
      have KS : Keeps (· ≠ g) wr (wr.setCell ⟨g, 2, none⟩ (.slice none 0 0)) := (Keeps.refl _ _).setCell (fun _ h => h rfl) _
      have nb : ∀ {v : Value} {n : Nat} {xs : List Value}, wr.ownsRow 0 5 1 v n xs → ∀ k, v.ownBlock = some k → k ≠ g := fun hx k hk e => own_ne_heap hx hh (by decide) (by rw [hk, e])
      have hsy : syncJ j = { j with dA := d.1, dB := d.2, ws := [] } := by rw [syncJ, hl2]
      have R : LNet F2 (wr.setCell ⟨g, 2, none⟩ (.slice none 0 0)) g (.slice A2 d.1.length ca2) (.slice B2 d.2.length cb2) (.slice none 0 0) [] (syncJ j) := by
        have hgs := good_sync hG
        rw [hsy] at hgs ⊢
        exact ⟨by rw [heap_setCell hh]; rfl, ⟨own_keeps hr.a.row KS (nb hr.a.row), hr.a.foot, hr.a.len⟩, ⟨own_keeps hr.b.row KS (nb hr.b.row), hr.b.foot, hr.b.len⟩, Pend.nil _ _, rfl, hr.ab, fun x hx => by simp at hx, hr.fg, fun k hk => Nat.lt_of_lt_of_le (hr.lt k hk) KS.size, hgs⟩
      have RR := hid (And.intro R (hKr.trans KS fun k _ hk e => hk (by rw [e]; exact hFg)))
      clear R KS nb hh hsy hl2 hfit
      go_wp2
      go_end0
      exact ⟨rfl, F2, _, _, RR.out.1, hF2, RR.out.2⟩
end Go.Proofs.YtdpaaoeipconcaaDoor
