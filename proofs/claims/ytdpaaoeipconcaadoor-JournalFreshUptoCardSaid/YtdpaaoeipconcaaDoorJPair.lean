/- weftlaw12.Pair.open, example, first: a journal and the document's from one disk; the document's example. Conditions: the disk can be read, the table lies. -/
import Derived.Test.YtdpaaoeipconcaaDoorJLOpenB
import Derived.Test.YtdpaaoeipconcaaDoorJROpen
import Derived.Test.YtdpaaoeipconcaaDoorJArea
namespace Go.Proofs.YtdpaaoeipconcaaDoor
open Go.RowKit

/-- A pair at block p: no journal, or both in one state; all its blocks are H's. -/
def PairAt (H : Nat → Prop) (w : World) (p : Nat) (o : Option Jn) : Prop :=
  H p ∧ (∀ k, H k → k < w.heap.size) ∧ match o with
  | none => w.heap[p]? = some (.cells #[.pointer none, .pointer none] 29 (0, 0))
  | some j => ∃ F G gl gm vA vB vP q vA' vB' vP' q', w.heap[p]? = some (.cells #[.pointer (some ⟨gl, 0, none⟩), .pointer (some ⟨gm, 0, none⟩)] 29 (0, 0)) ∧ LNet F w gl vA vB vP q j ∧ RNet G w gm vA' vB' vP' q' j ∧
      (∀ k, F k → ¬ G k) ∧ (∀ k, F k → H k ∧ k ≠ p) ∧ (∀ k, G k → H k ∧ k ≠ p)

theorem PairAt.keep {H : Nat → Prop} {w w' : World} {p : Nat} {o : Option Jn} (h : PairAt H w p o) (hk : Keeps H w w') : PairAt H w' p o := by
  obtain ⟨h1, h2, h3⟩ := h
  refine ⟨h1, fun k hk' => Nat.lt_of_lt_of_le (h2 k hk') hk.size, ?_⟩
  cases o with
  | none => exact hk.heap h3 h1
  | some j =>
    obtain ⟨F, G, gl, gm, vA, vB, vP, q, vA', vB', vP', q', hp, hL, hR, hFG, hF, hG⟩ := h3
    exact ⟨F, G, gl, gm, vA, vB, vP, q, vA', vB', vP', q', hk.heap hp h1, hL.keep (hk.mono fun k _ h => (hF k h).1), hR.keep (hk.mono fun k _ h => (hG k h).1), hFG, hF, hG⟩

theorem open_count {d : Dk} {j : Jn} {recs : List (List UInt8)} (h : openJ d = some (j, recs)) : recs.length ≤ 1048576 := by
  obtain ⟨a1, a2, _⟩ := readA_ok d.1
  obtain ⟨b1, b2, _⟩ := readA_ok d.2
  unfold openJ at h
  simp only at h
  split at h
  · simp at h
  · rename_i hsp
    have la := a2 fun e => hsp (.inl e)
    have lb := b2 fun e => hsp (.inr e)
    split at h
    · split at h
      · simp at h
      · injection h with h
        injection h with h1 h2
        subst h2
        simp
    · rename_i hw
      split at h
      · rename_i hb
        injection h with h
        injection h with h1 h2
        subst h2
        have hb3 : (readA d.2).state = 3 := by
          rcases hb with hb | hb
          · exact Decidable.not_not.1 fun e => hw ⟨hb, e⟩
          · exact hb.1
        obtain ⟨x1, x2, x3⟩ := b1 hb3
        omega
      · rename_i hb
        injection h with h
        injection h with h1 h2
        subst h2
        have ha3 : (readA d.1).state = 3 := Decidable.not_not.1 fun e => hb (.inl e)
        obtain ⟨x1, x2, x3⟩ := a1 ha3
        omega

set_option maxHeartbeats 4000000 in
theorem popen_any (w : World) (S : Nat → Prop) (p : Nat) (v0 v1 : Value) (A B : Option Addr) (n m c d : Nat) (xs ys : List UInt8) (hp : w.heap[p]? = some (.cells #[v0, v1] 29 (0, 0))) (ha : Bts S w A xs) (hb : Bts S w B ys) (hn : n = xs.length) (hm : m = ys.length) (hc : n ≤ c) (hd : m ≤ d) (hT : Tab w) :
    Calls Tryd.prog 19 #[.pointer (some ⟨p, 0, none⟩), .agg #[.slice A n c, .slice B m d]] w fun e w' => e = .returned (.bool true) ∧ ∃ H, PairAt H w' p ((openJ (xs, ys)).map (·.1)) ∧ (∀ k, H k → k = p ∨ w.heap.size ≤ k) ∧ Keeps (· ≠ p) w w' := by
  obtain ⟨W0, hW0⟩ : ∃ W, W = w.alloc (.cells #[.slice A n c, .slice B m d] 24) := ⟨_, rfl⟩
  have k0 : Old w W0 := by rw [hW0]; exact (Keeps.refl _ _).alloc _
  have hb0 : W0.heap[w.heap.size]? = some (.cells #[.slice A n c, .slice B m d] 24 (0, 0)) := by rw [hW0]; exact heap_alloc_new _ _
  have c0 : W0.cell? ⟨w.heap.size, 0, none⟩ = some (.slice A n c) := cell_of_heap hb0
  have c1 : W0.cell? ⟨w.heap.size, 1, none⟩ = some (.slice B m d) := cell_of_heap hb0
  have hl := lopen_any W0 S A B n m c d xs ys (ha.keep (k0.old _)) (hb.keep (k0.old _)) hn hm hc hd (hT.keep (k0.old (fun _ => True)) trivial)
  have hr : ∀ W, Old W0 W → Calls Tryd.prog 47 #[.agg #[.slice A n c, .slice B m d]] W (PostROpen W (openJ (xs, ys))) := fun W hW => ropen_any W S A B n m c d xs ys (ha.keep ((k0.trans' hW).old _)) (hb.keep ((k0.trans' hW).old _)) hn hm hc hd
  have HR := hid hr
  have hpl := lt_of_heap hp
  have z0 := k0.size
  clear hr hn hm
  go_enter Tryd.func19, Tryd.ntmps19
  go_upto_region 1 with fail
  rw [← hW0]
  clear hW0
  cases ho : openJ (xs, ys) with
  | none =>
    rw [ho] at hl
    go_wp2_with fail
    refine hl.mono ?_
    rintro e w1 ⟨rfl, k1⟩
    have hr1 := HR.out w1 k1
    rw [ho] at hr1
    have d0 : w1.cell? ⟨w.heap.size, 0, none⟩ = some (.slice A n c) := cell_of_heap (k1.heap hb0 trivial)
    have d1 : w1.cell? ⟨w.heap.size, 1, none⟩ = some (.slice B m d) := cell_of_heap (k1.heap hb0 trivial)
    clear hl c0 c1
    go_wp2_with fail
    refine hr1.mono ?_
    rintro e w2 ⟨rfl, k2⟩
    clear hr1
    have K := (k0.trans' k1).trans' k2
    have hp2 := K.heap hp trivial
    have e0 : w2.cell? ⟨p, 0, none⟩ = some v0 := cell_of_heap hp2
    have e1 : w2.cell? ⟨p, 1, none⟩ = some v1 := cell_of_heap hp2
    have ef : ∀ i, w2.frozen? ⟨p, i, none⟩ = false := fun i => frozen_of_heap hp2
    obtain ⟨W3, hW3⟩ : ∃ W, W = (w2.setCell ⟨p, 0, none⟩ (.pointer none)).setCell ⟨p, 1, none⟩ (.pointer none) := ⟨_, rfl⟩
    have hp3 : W3.heap[p]? = some (.cells #[.pointer none, .pointer none] 29 (0, 0)) := by
      rw [hW3, heap_setCell (heap_setCell hp2 _)]
      rfl
    have k3 : Keeps (· ≠ p) w2 W3 := by rw [hW3]; exact ((Keeps.refl _ _).setCell (fun _ h => h rfl) _).setCell (fun _ h => h rfl) _
    have hls := lists_any W3 S S none none 0 0 [] [] (Rcs.nil _ _ _) (Rcs.nil _ _ _)
    rw [decide_eq_true (show ([] : List (List UInt8)) = [] from rfl)] at hls
    go_upto_region 5 with fail
    rw [← hW3]
    clear hW3
    go_wp2_with fail
    refine hls.mono ?_
    rintro e w4 ⟨rfl, nd, hw4⟩
    have k4 : Old W3 w4 := by rw [← hw4]; exact (Keeps.refl _ _).drewN _
    clear hw4 hls
    have hp4 := k4.heap hp3 trivial
    go_wp2
    go_ret
    rw [ho]
    exact ⟨rfl, (· = p), ⟨rfl, fun k hk => by rw [hk]; exact lt_of_heap hp4, hp4⟩, fun k hk => .inl hk, ((K.old _).trans' k3).trans' (k4.old _)⟩
  | some jr =>
    obtain ⟨j, recs⟩ := jr
    rw [ho] at hl
    have hcnt := open_count ho
    go_wp2_with fail
    refine hl.mono ?_
    rintro e w1 ⟨F, gl, vA, vB, vP, q, L, ql, rfl, hL, hF, hql, hoL, k1⟩
    have hr1 := HR.out w1 k1
    rw [ho] at hr1
    have d0 : w1.cell? ⟨w.heap.size, 0, none⟩ = some (.slice A n c) := cell_of_heap (k1.heap hb0 trivial)
    have d1 : w1.cell? ⟨w.heap.size, 1, none⟩ = some (.slice B m d) := cell_of_heap (k1.heap hb0 trivial)
    obtain ⟨AL, cL, hLs, _, hRL⟩ := hoL.rcs (by rw [← List.length_map (f := (·.1)), hql]; omega)
    clear hl c0 c1
    rw [hql] at hRL
    have hqlen : ql.length = recs.length := by rw [← hql]; simp
    rw [hqlen] at hLs
    subst hLs
    go_wp2_with fail
    refine hr1.mono ?_
    rintro e w2 ⟨G, gm, vA', vB', vP', q', M, qm, rfl, hR, hG, hqm, hoM, k2⟩
    clear hr1
    obtain ⟨AM, cM, hMs, _, hRM⟩ := hoM.rcs (by rw [← List.length_map (f := (·.1)), hqm]; omega)
    rw [hqm] at hRM
    have hqlem : qm.length = recs.length := by rw [← hqm]; simp
    rw [hqlem] at hMs
    subst hMs
    have K := (k0.trans' k1).trans' k2
    have hp2 := K.heap hp trivial
    have e0 : w2.cell? ⟨p, 0, none⟩ = some v0 := cell_of_heap hp2
    have e1 : w2.cell? ⟨p, 1, none⟩ = some v1 := cell_of_heap hp2
    have ef : ∀ i, w2.frozen? ⟨p, i, none⟩ = false := fun i => frozen_of_heap hp2
    obtain ⟨W3, hW3⟩ : ∃ W, W = (w2.setCell ⟨p, 0, none⟩ (.pointer (some ⟨gl, 0, none⟩))).setCell ⟨p, 1, none⟩ (.pointer (some ⟨gm, 0, none⟩)) := ⟨_, rfl⟩
    have hp3 : W3.heap[p]? = some (.cells #[.pointer (some ⟨gl, 0, none⟩), .pointer (some ⟨gm, 0, none⟩)] 29 (0, 0)) := by
      rw [hW3, heap_setCell (heap_setCell hp2 _)]
      rfl
    have k3 : Keeps (· ≠ p) w2 W3 := by rw [hW3]; exact ((Keeps.refl _ _).setCell (fun _ h => h rfl) _).setCell (fun _ h => h rfl) _
    have zz1 := k1.size
    have hls := lists_any W3 (fun k => W0.heap.size ≤ k) (fun k => w1.heap.size ≤ k) AL AM cL cM recs recs ((hRL.keep (k2.old _)).keep (k3.mono fun k _ h => by have := h.1; show k ≠ p; omega) |>.mono fun k _ h => h.1) (hRM.keep (k3.mono fun k _ h => by have := h.1; show k ≠ p; omega) |>.mono fun k _ h => h.1)
    rw [decide_eq_true (show recs = recs from rfl)] at hls
    have RL := hid hql
    have RM := hid hqm
    clear hql hqm hqlen hqlem hRL hRM hoL hoM
    go_upto_region 5 with fail
    rw [← hW3]
    clear hW3
    go_wp2_with fail
    refine hls.mono ?_
    rintro e w4 ⟨rfl, nd, hw4⟩
    have k4 : Old W3 w4 := by rw [← hw4]; exact (Keeps.refl _ _).drewN _
    clear hw4 hls
    have hp4 := k4.heap hp3 trivial
    have k34 := k3.trans' (k4.old _)
    have hL4 := (hL.keep (k2.old _)).keep (k34.mono fun k _ h => by have := hF k h; show k ≠ p; omega)
    have hR4 := hR.keep (k34.mono fun k _ h => by have := hG k h; show k ≠ p; omega)
    go_wp2
    go_ret
    rw [ho]
    refine ⟨rfl, fun k => k = p ∨ F k ∨ G k, ⟨.inl rfl, fun k hk => ?_, F, G, gl, gm, vA, vB, vP, q, vA', vB', vP', q', hp4, hL4, hR4, fun k h1 h2 => ?_, fun k h => ⟨.inr (.inl h), by have := hF k h; omega⟩, fun k h => ⟨.inr (.inr h), by have := hG k h; omega⟩⟩, fun k hk => ?_, (K.old _).trans' k34⟩
    · rcases hk with rfl | hk | hk
      · exact lt_of_heap hp4
      · exact hL4.lt k hk
      · exact hR4.lt k hk
    · have := hL.lt k h1; have := hG k h2; omega
    · rcases hk with hk | hk | hk
      · exact .inl hk
      · have := hF k hk; right; omega
      · have := hG k hk; right; omega
end Go.Proofs.YtdpaaoeipconcaaDoor
