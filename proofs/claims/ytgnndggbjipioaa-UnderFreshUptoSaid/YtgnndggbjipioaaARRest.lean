/- (*weftref18.Net).Copy, Lose, Take: what each answers and does to the packets in flight. Condition: the net stands whole at its block. -/
import Derived.Test.YtgnndggbjipioaaARPut
namespace Go.Proofs.Ytgnndggbjipioaa
open Go.RowKit

def PostR (F : Nat → Prop) (w : World) (g lim : Nat) (r : Int × List Pk) (e : Ending) (w' : World) : Prop :=
  ∃ F' L' q', e = .returned (.int .i64 r.1) ∧ RNet F' w' g lim L' q' ∧ q'.map (·.1) = r.2 ∧ (∀ k, F' k → F k ∨ w.heap.size ≤ k) ∧ Keeps (fun k => ¬ F k) w w'

theorem copyS_no {lim : Nat} {i : Int} {q : List (Pk × Value)} (hi : ¬ (0 ≤ i ∧ i < q.length)) : copyS lim i (q.map (·.1)) = (3, q.map (·.1)) := by simp [copyS, hi]
theorem copyS_at {lim j : Nat} {q : List (Pk × Value)} {x : Pk × Value} (hj : j < q.length) (hx : q[j] = x) : copyS lim (j : Int) (q.map (·.1)) = if lim ≤ q.length then (4, q.map (·.1)) else (0, q.map (·.1) ++ [x.1]) := by
  unfold copyS
  rw [dif_pos (by simp; omega)]
  simp [hx]

set_option maxHeartbeats 1000000 in
theorem rcopy_any (w : World) (F : Nat → Prop) (g lim : Nat) (L : Value) (q : List (Pk × Value)) (i : Int) (hN : RNet F w g lim L q) :
    Calls Try.prog 46 #[.pointer (some ⟨g, 0, none⟩), .int .i64 i] w (PostR F w g lim (copyS lim i (q.map (·.1)))) := by
  obtain ⟨LA, lc, hLs, hlc, hlm⟩ := own_slice hN.flight.row
  subst hLs
  have n0 := hN.cell0
  have n1 := hN.cell1
  by_cases hi : 0 ≤ i ∧ i < q.length
  · obtain ⟨j, rfl⟩ := Int.eq_ofNat_of_zero_le hi.1
    have hj : j < q.length := by omega
    obtain ⟨b, c, A', c', hLe, _, _, hFb, hv, h0, h1, hc', hb⟩ := hN.flight.at_ hj
    have hroom := hN.room
    have hmost := hN.most
    have hq : q.length ≤ 4096 := by omega
    injection hLe with hLA _ hcc
    subst hLA
    have hlen := hN.len _ (List.getElem_mem hj)
    generalize hs : q[j] = x at *
    obtain ⟨⟨t, bs⟩, v0⟩ := x
    simp only at hv h0 h1 hc' hb hlen
    have HC := hid (copyS_at (lim := lim) hj hs)
    clear hs hi hcc
    have hgw : g < w.heap.size := lt_of_heap hN.head
    by_cases hfull : lim ≤ q.length
    · go_enter Try.func46, Try.ntmps46
      go_wp2_with (go_at_call 54; refine (rthere_any _ g q.length lc (some ⟨b, 0, none⟩) j n0).mono ?_; rintro e w' ⟨rfl, rfl⟩)
      go_quiet (fail)
      go_wp2
      go_ret
      rw [HC.out, if_pos hfull]
      exact ⟨F, _, q, rfl, hN.keep ((Keeps.refl _ _).drewN _), rfl, fun k h => .inl h, (Keeps.refl _ _).drewN _⟩
    · go_enter Try.func46, Try.ntmps46
      go_wp2_with (go_at_call 54; refine (rthere_any _ g q.length lc (some ⟨b, 0, none⟩) j n0).mono ?_; rintro e w' ⟨rfl, rfl⟩)
      go_quiet (fail)
      go_wp2
      obtain ⟨W0, hW0⟩ : ∃ W0, W0 = w.drewN nq := ⟨_, rfl⟩
      rw [← hW0]
      have k0 : Old w W0 := by subst hW0; exact (Keeps.refl _ _).drewN _
      have e0 : W0.cell? ⟨b, j * 2, none⟩ = some (.int .u32 t) := by subst hW0; exact h0
      have e1 : W0.cell? ⟨b, j * 2 + 1, none⟩ = some (.slice A' bs.length c') := by subst hW0; exact h1
      have hN0 := hN.keep (k0.old F)
      have n10 := hN0.cell0
      clear hW0 n0 n1 h0 h1
      have hi1 : (0 : Int) ≤ (j : Int) := by omega
      have hi2 : (j : Int) < (q.length : Int) := by omega
      refine wp_region_plan (fun w' => w'.cell? ⟨g, 0, none⟩ = some (.slice (some ⟨b, 0, none⟩) q.length lc)) [true, true, true, true, true, true, true, true, true, true, true, false, false, false, false] (by kernel_rfl) (by kernel_rfl) n10 ?_
      iterate 11 (refine plan_take (v := ?_) (by rfl) (fun w' hS => ?_) ?_; rotate_left 1; (go_simp <;> (try rw [if_pos (by omega)]) <;> (try with_reducible rfl)); (simp only [Act.put, List.setIfInBounds_toArray, List.set_cons_zero, List.set_cons_succ]))
      refine plan_loud (by rfl) (fun K hK => ?_)
      go_wp2_with fail
      refine hK _ _ n10 ?_
      clear hK K
      refine plan_loud (by rfl) (fun K hK => ?_)
      go_wp2_with (go_at_call 55; refine (rown_any _ F t A' c' bs ?_ (by omega)).mono ?_)
      · exact hb.keep (((k0.old F).drew))
      rintro e w1 ⟨v, rfl, hov, hold⟩
      have hN1 := hN0.keep (hold.ofDrew.old F)
      have m0 := hN1.cell0
      have hap := hN1.flight.row.alloc (.cells #[.int .u32 t, v] 48)
      have hv1 := hov.one
      refine hK _ _ m0 ?_
      clear hK K
      refine plan_loud (by rfl) (fun K hK => ?_)
      go_wp2_with fail
      refine hK _ _ ?_ ?_
      · rw [World.cell?_alloc_lt _ _ _ (lt_of_cell m0)]; exact m0
      clear hK K
      refine plan_loud (by rfl) (fun K hK => ?_)
      refine wp_append_ex _ _ _ 34 48 (by rfl) Try.underlying34 info48 (by rfl) (by omega) (by rfl) hap (some ⟨w1.heap.size, 0, none⟩) 1 1 [.int .u32 t, v] (by rfl) (by rfl) (fun _ => ⟨_, rfl, World.news_of_block (heap_alloc_new _ _)⟩) (two_one hv1) (by omega) (by unfold maxLen; omega) ?_
      intro v2 w2 hown2 hgrow2 hat2
      have K2 : Keeps (fun k => Value.ownBlock (.slice (some ⟨b, 0, none⟩) q.length lc) ≠ some k) w1 w2 := ((Keeps.refl _ w1).alloc _).grown hgrow2 (fun k _ h hn => hn h)
      have p0 := (K2.cell (p := ⟨g, 0, none⟩) (lt_of_cell m0) (own_ne_heap hN1.flight.row hN1.head (by decide))).trans m0
      have h2 := K2.heap hN1.head (own_ne_heap hN1.flight.row hN1.head (by decide))
      have f3 := frozen_of_heap (i := 0) h2
      obtain ⟨A2, c2, rfl, hc2a, hc2b⟩ := own_slice hown2
      refine hK _ _ p0 ?_
      clear hK K
      refine plan_tail ?_
      go_wp2
      refine NoPanic.normal ?_
      go_wp2
      go_ret
      rw [HC.out, if_neg hfull]
      have hN2 := rnet_push (p := (t, bs)) hN1 hov (fun k h1 h2 => by have := hN0.lt k h1; simp at h2; omega) (by simp; omega) (by omega) K2 hown2
      have kw : Old w w1 := k0.trans' hold.ofDrew
      have k3 : Keeps (fun k => ¬ F k) w (w2.setCell ⟨g, 0, none⟩ (.slice A2 (q.length + 1) c2)) :=
        ((kw.old (fun k => ¬ F k)).trans K2 (fun k _ h e => h (hN.flight.foot k e))).setCell (fun _ h => h hN.fg) _
      refine ⟨_, _, _, rfl, hN2, by simp, ?_, k3⟩
      rintro k (h | h | h)
      · exact .inl h
      · exact .inr (by have := h.1; have := kw.size; have := k0.size; simp at *; omega)
      · rcases hat2 with e | e
        · exact .inl (hN.flight.foot k (e ▸ h))
        · rw [e] at h; injection h with h; simp at h; have := kw.size; exact .inr (by omega)
  · go_enter Try.func46, Try.ntmps46
    go_wp2_with (go_at_call 54; refine (rthere_no _ g q.length lc LA i n0 hi).mono ?_; rintro e w' ⟨rfl, rfl⟩)
    go_ret
    rw [copyS_no hi]
    exact ⟨F, _, q, rfl, hN, rfl, fun k h => .inl h, Keeps.refl _ _⟩

theorem loseS_no {i : Int} {q : List (Pk × Value)} (hi : ¬ (0 ≤ i ∧ i < q.length)) : takeS i (q.map (·.1)) = ((0, []), 3, q.map (·.1)) := by
  unfold takeS; rw [dif_neg (by simpa using hi)]
theorem takeS_at {j : Nat} {q : List (Pk × Value)} {x : Pk × Value} (hj : j < q.length) (hx : q[j] = x) : takeS (j : Int) (q.map (·.1)) = (x.1, 0, (q.eraseIdx j).map (·.1)) := by
  unfold takeS
  rw [dif_pos (by simp; omega)]
  simp [hx, List.eraseIdx_eq_take_drop_succ, List.map_take, List.map_drop]

/-- Behind 'n.flight = n.without(i)'. -/
theorem rnet_erase {F : Nat → Prop} {w w1 : World} {g lim j : Nat} {L v : Value} {q : List (Pk × Value)} (hN : RNet F w g lim L q) (hj : j < q.length)
    (ho : w1.ownsRow 0 48 2 v (q.eraseIdx j).length (row2 (q.eraseIdx j))) (hold : Old w w1) :
    RNet (fun k => (F k ∨ v.ownBlock = some k) ∧ q[j].2.ownBlock ≠ some k) (w1.setCell ⟨g, 0, none⟩ v) g lim v (q.eraseIdx j) := by
  have hN1 := hN.keep (hold.old F)
  have hlen : (q.eraseIdx j).length = q.length - 1 := by rw [List.length_eraseIdx]; simp [hj]
  have K : Keeps (· ≠ g) w1 (w1.setCell ⟨g, 0, none⟩ v) := (Keeps.refl _ _).setCell (fun _ h => h rfl) _
  have hrow : (w1.setCell ⟨g, 0, none⟩ v).ownsRow 0 48 2 v (q.length - 1) (row2 (q.eraseIdx j)) := by
    rw [← hlen]
    exact own_keeps ho K fun k hk e => own_ne_heap ho hN1.head (by decide) (e ▸ hk)
  obtain ⟨hfl, _⟩ := flight_erase (F := fun k => F k ∨ v.ownBlock = some k) (hN1.flight.mono fun k _ h => .inl h) hj K
    (fun k _ _ ht e => by subst e; exact absurd (ht _ _ hN1.head) (by decide)) hrow (fun k hk => ⟨.inr hk, hrow⟩)
  refine ⟨by rw [heap_setCell hN1.head]; rfl, hfl, ⟨.inl hN.fg, own_ne_heap (hN1.flight.own _ (List.getElem_mem hj)).row hN1.head (by decide)⟩, ?_, hN.most, by rw [hlen]; have := hN.room; omega, fun x hx => hN.len x (List.mem_of_mem_eraseIdx hx)⟩
  rintro k ⟨h | h, _⟩
  · exact Nat.lt_of_lt_of_le (hN1.lt k h) K.size
  · exact own_lt hrow h

set_option maxHeartbeats 1000000 in
theorem rlose_any (w : World) (F : Nat → Prop) (g lim : Nat) (L : Value) (q : List (Pk × Value)) (i : Int) (hN : RNet F w g lim L q) :
    Calls Try.prog 47 #[.pointer (some ⟨g, 0, none⟩), .int .i64 i] w (PostR F w g lim (loseS i (q.map (·.1)))) := by
  obtain ⟨LA, lc, hLs, hlc, hlm⟩ := own_slice hN.flight.row
  subst hLs
  have n0 := hN.cell0
  by_cases hi : 0 ≤ i ∧ i < q.length
  · obtain ⟨j, rfl⟩ := Int.eq_ofNat_of_zero_le hi.1
    have hj : j < q.length := by omega
    clear hi
    have HC := hid (takeS_at hj (rfl : q[j] = q[j]))
    have hfr : ∀ w', Old w w' → w'.frozen? ⟨g, 0, none⟩ = false := fun w' h => (hN.keep (h.old F)).frozen 0
    go_enter Try.func47, Try.ntmps47
    have hd : (decide ((0 : Int) ≤ (j : Int)) && decide ((j : Int) < (q.length : Int))) = true := by simp; omega
    have hth := rthere_any w g q.length lc LA j n0
    rw [hd] at hth
    go_wp2_with (go_at_call 54; refine hth.mono ?_; rintro e w' ⟨rfl, rfl⟩)
    refine (rwithout_any w F g lim _ q j hN hj).mono ?_
    rintro e w1 ⟨v, rfl, ho, hv, hold⟩
    obtain ⟨VA, vc, hvs, _, _⟩ := own_slice ho
    subst hvs
    have m0 := (hN.keep (hold.old F)).cell0
    have f0 := hfr w1 hold
    go_wp2
    go_ret
    unfold loseS
    rw [HC.out]
    refine ⟨_, _, _, rfl, rnet_erase hN hj ho hold, rfl, fun k h => h.1.imp id (hv k), (hold.old _).setCell (fun _ h => h hN.fg) _⟩
  · go_enter Try.func47, Try.ntmps47
    go_wp2_with (go_at_call 54; refine (rthere_no _ g q.length lc LA i n0 hi).mono ?_; rintro e w' ⟨rfl, rfl⟩)
    go_ret
    unfold loseS
    rw [loseS_no hi]
    exact ⟨F, _, q, rfl, hN, rfl, fun k h => .inl h, Keeps.refl _ _⟩

/-- Behind a Take of weftref18. -/
def PostRTake (F : Nat → Prop) (w : World) (g lim : Nat) (r : Pk × Int × List Pk) (e : Ending) (w' : World) : Prop :=
  ∃ F' G L' q' v, e = .returned (.tuple #[.agg #[.int .u32 r.1.1, v], .int .i64 r.2.1]) ∧ RNet F' w' g lim L' q' ∧ q'.map (·.1) = r.2.2 ∧ OwnB G w' v r.1.2 ∧
    (∀ k, F' k → F k ∨ w.heap.size ≤ k) ∧ (∀ k, G k → F k ∨ w.heap.size ≤ k) ∧ (∀ k, F' k → ¬ G k) ∧ Keeps (fun k => ¬ F k) w w'

set_option maxHeartbeats 1000000 in
theorem rtake_any (w : World) (F : Nat → Prop) (g lim : Nat) (L : Value) (q : List (Pk × Value)) (i : Int) (hN : RNet F w g lim L q) :
    Calls Try.prog 36 #[.pointer (some ⟨g, 0, none⟩), .int .i64 i] w (PostRTake F w g lim (takeS i (q.map (·.1)))) := by
  obtain ⟨LA, lc, hLs, hlc, hlm⟩ := own_slice hN.flight.row
  subst hLs
  have n0 := hN.cell0
  have n0' : (w.alloc (.cells #[.int .u32 0, .slice none 0 0] 48)).cell? ⟨g, 0, none⟩ = some (.slice LA q.length lc) := by
    rw [World.cell?_alloc_lt _ _ _ (lt_of_cell n0)]; exact n0
  by_cases hi : 0 ≤ i ∧ i < q.length
  · obtain ⟨j, rfl⟩ := Int.eq_ofNat_of_zero_le hi.1
    have hj : j < q.length := by omega
    clear hi
    have hth := rthere_any _ g q.length lc LA j n0'
    rw [show (decide ((0 : Int) ≤ (j : Int)) && decide ((j : Int) < (q.length : Int))) = true by simp; omega] at hth
    have k0 : Old w (w.alloc (.cells #[.int .u32 0, .slice none 0 0] 48)) := (Keeps.refl _ _).alloc _
    have hN0 := hN.keep (k0.old F)
    have hb0 : (w.alloc (.cells #[.int .u32 0, .slice none 0 0] 48)).heap[w.heap.size]? = some (.cells #[.int .u32 0, .slice none 0 0] 48 (0, 0)) := heap_alloc_new _ _
    obtain ⟨b, c, A', c', hLe, _, _, hFb, hv, h0, h1, hc', hb⟩ := hN0.flight.at_ hj
    have hroom := hN.room
    have hmost := hN.most
    have hq : q.length ≤ 4096 := by omega
    have hlen := hN.len _ (List.getElem_mem hj)
    injection hLe with hLA _ hcc
    subst hLA
    generalize hs : q[j] = x at *
    obtain ⟨⟨t, bs⟩, v0⟩ := x
    simp only at hv h0 h1 hc' hb hlen
    have HC := hid (takeS_at hj hs)
    clear hs hcc
    go_enter Try.func36, Try.ntmps36
    go_wp2_with (go_at_call 54; refine hth.mono ?_; rintro e w' ⟨rfl, rfl⟩)
    refine (rown_any _ F t A' c' bs hb (by omega)).mono ?_
    rintro e w1 ⟨v, rfl, hov, hold1⟩
    obtain ⟨VA, vc, hvs, _, _⟩ := hov.slice
    subst hvs
    have kw1 : Old w w1 := k0.trans' hold1
    have hz1 : w.heap.size + 1 ≤ w1.heap.size := by have := hold1.size; simpa using this
    have hN2 := hN.keep ((kw1.alloc (.cells #[.int .u32 t, .slice VA bs.length vc] 48)).old F)
    have hb1 : (w1.alloc (.cells #[.int .u32 t, .slice VA bs.length vc] 48)).heap[w1.heap.size]? = some (.cells #[.int .u32 t, .slice VA bs.length vc] 48 (0, 0)) := heap_alloc_new _ _
    have hb01 := (hold1.alloc (.cells #[.int .u32 t, .slice VA bs.length vc] 48)).heap hb0 trivial
    go_wp2_with fail
    refine (rwithout_any _ F g lim _ q j hN2 hj).mono ?_
    rintro e w3 ⟨L3, rfl, ho3, hv3, hold3⟩
    obtain ⟨LA3, lc3, hLs3, _, _⟩ := own_slice ho3
    subst hLs3
    have hN3 := hN2.keep (hold3.old F)
    have m0 := hN3.cell0
    have f0 := hN3.frozen 0
    have hgl : g < w.heap.size := lt_of_heap hN.head
    have d1 := hold3.heap hb1 trivial
    have d0 := hold3.heap hb01 trivial
    have K4 : Keeps (· ≠ g) w3 (w3.setCell ⟨g, 0, none⟩ (.slice LA3 (q.eraseIdx j).length lc3)) := (Keeps.refl _ _).setCell (fun _ h => h rfl) _
    have d1' := K4.heap d1 (show w1.heap.size ≠ g by omega)
    have d0' := K4.heap d0 (show w.heap.size ≠ g by omega)
    have e0 : (w3.setCell ⟨g, 0, none⟩ (.slice LA3 (q.eraseIdx j).length lc3)).cell? ⟨w.heap.size, 0, none⟩ = some (.int .u32 0) := cell_of_heap d0'
    have e1 : (w3.setCell ⟨g, 0, none⟩ (.slice LA3 (q.eraseIdx j).length lc3)).cell? ⟨w.heap.size, 1, none⟩ = some (.slice none 0 0) := cell_of_heap d0'
    have e2 : (w3.setCell ⟨g, 0, none⟩ (.slice LA3 (q.eraseIdx j).length lc3)).cell? ⟨w1.heap.size, 0, none⟩ = some (.int .u32 t) := cell_of_heap d1'
    have e3 : (w3.setCell ⟨g, 0, none⟩ (.slice LA3 (q.eraseIdx j).length lc3)).cell? ⟨w1.heap.size, 1, none⟩ = some (.slice VA bs.length vc) := cell_of_heap d1'
    have g0 := frozen_of_heap (i := 0) d0'
    have g1 := frozen_of_heap (i := 1) d0'
    go_wp2_with fail
    refine bodyPost_ret (v := .tuple #[.agg #[.int .u32 t, .slice VA bs.length vc], .int .i64 0]) (by simp [results, Try.results36, go_sem, e0, e1]) rfl ?_
    have hR := rnet_erase (w := w1.alloc (.cells #[.int .u32 t, .slice VA bs.length vc] 48)) hN2 hj ho3 hold3
    generalize hW4 : w3.setCell ⟨g, 0, none⟩ (.slice LA3 (q.eraseIdx j).length lc3) = W4 at *
    have k5 : Keeps (· ≠ w.heap.size) W4 ((W4.setCell ⟨w.heap.size, 0, none⟩ (.int .u32 t)).setCell ⟨w.heap.size, 1, none⟩ (.slice VA bs.length vc)) :=
      ((Keeps.refl _ _).setCell (fun _ h => h rfl) _).setCell (fun _ h => h rfl) _
    have kw4 : Keeps (· ≠ g) w W4 := (((kw1.alloc _).old _).trans' (hold3.old _)).trans' K4
    generalize (W4.setCell ⟨w.heap.size, 0, none⟩ (.int .u32 t)).setCell ⟨w.heap.size, 1, none⟩ (.slice VA bs.length vc) = W5 at *
    have hz3 : w1.heap.size < W4.heap.size := by have := hold3.size; have := K4.size; simp at *; omega
    rw [HC.out]
    have ho4 : OwnB (fun k => w.heap.size + 1 ≤ k ∧ k < w1.heap.size) W5 (.slice VA bs.length vc) bs := by
      have h1 : OwnB (fun k => w.heap.size + 1 ≤ k ∧ k < w1.heap.size) w1 (.slice VA bs.length vc) bs := hov.mono fun k hk h => by simp at h; omega
      have k15 : Keeps (fun k => k ≠ g ∧ k ≠ w.heap.size) w1 W5 :=
        (((((Keeps.refl _ w1).alloc _).trans' (hold3.old _)).trans K4 (fun _ _ h => h.1)).trans k5 (fun _ _ h => h.2))
      exact h1.keep (k15.mono fun k _ h => by omega)
    have hv3' : ∀ k, Value.ownBlock (.slice LA3 (q.eraseIdx j).length lc3) = some k → w1.heap.size + 1 ≤ k := fun k h => by have := hv3 k h; simpa using this
    refine ⟨_, _, _, _, _, rfl, hR.keep (k5.mono fun k _ h => ?_), rfl, ho4, ?_, fun k h => .inr (by omega), ?_, (kw4.mono fun k _ h e => h (e ▸ hN.fg)).trans k5 fun k hk _ e => by omega⟩
    · rcases h.1 with h | h
      · have := hN.lt k h; omega
      · have := hv3' k h; omega
    · rintro k ⟨h | h, _⟩
      · exact .inl h
      · have := hv3' k h; exact .inr (by omega)
    · rintro k ⟨h | h, _⟩ h'
      · have := hN.lt k h; omega
      · have := hv3' k h; omega
  · go_enter Try.func36, Try.ntmps36
    go_wp2_with (go_at_call 54; refine (rthere_no _ g q.length lc LA i n0' hi).mono ?_; rintro e w' ⟨rfl, rfl⟩)
    refine bodyPost_ret (v := .tuple #[.agg #[.int .u32 0, .slice none 0 0], .int .i64 3]) (by simp [results, Try.results36, go_sem]) rfl ?_
    rw [loseS_no hi]
    exact ⟨F, fun _ => False, _, q, .slice none 0 0, rfl, hN.keep ((Keeps.refl _ _).alloc _), rfl, OwnB.nil _ _, fun k h => .inl h, fun k h => h.elim, fun k _ h => h, (Keeps.refl _ _).alloc _⟩
end Go.Proofs.Ytgnndggbjipioaa
