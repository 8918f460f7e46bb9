/- (*under.Net).Take: the packet, which is no longer in flight; those behind it move up. Condition: the net stands whole at its block. -/
import Derived.Test.YtgnndggbjipioaaAUSmall
import Derived.Test.YtgnndggbjipioaaAPlan
namespace Go.Proofs.Ytgnndggbjipioaa
open Go.RowKit

/-- Take's answer: the packet, the error, what is left. -/
def takeS (i : Int) (ps : List Pk) : Pk × Int × List Pk :=
  if h : 0 ≤ i ∧ i < ps.length then (ps[i.toNat]'(by omega), 0, ps.eraseIdx i.toNat) else ((0, []), 3, ps)

/-- Behind a Take: the packet answered has bytes of its own, apart from what is still in flight. -/
def PostUTake (F : Nat → Prop) (w : World) (g lim : Nat) (r : Pk × Int × List Pk) (e : Ending) (w' : World) : Prop :=
  ∃ F' G L' q' v, e = .returned (.tuple #[.agg #[.int .u32 r.1.1, v], .int .i64 r.2.1]) ∧ UNet F' w' g lim L' q' ∧ q'.map (·.1) = r.2.2 ∧ OwnB G w' v r.1.2 ∧
    (∀ k, F' k → F k) ∧ (∀ k, G k → F k) ∧ (∀ k, F' k → ¬ G k) ∧ Keeps (fun k => ¬ F k) w w'

theorem flight_block {F : Nat → Prop} {w : World} {b n c : Nat} {q : List (Pk × Value)} (h : Flight F w (.slice (some ⟨b, 0, none⟩) n c) q) (hn : 0 < q.length) :
    n = q.length ∧ n ≤ c ∧ c ≤ maxLen ∧ F b ∧ ∃ rest, w.heap[b]? = some (.cells (row2 q ++ rest).toArray 48 (0, 0)) ∧ (row2 q ++ rest).length = c * 2 := by
  rcases h.row.2 with ⟨_, h0⟩ | ⟨g, cap, cur, hv, hb0, hg, hnc, hcm, hcs, ht⟩
  · omega
  injection hv with hA hn' hc'
  injection hA with hA
  injection hA with hA
  subst hA; subst hn'; subst hc'
  refine ⟨rfl, hnc, hcm, h.foot b rfl, cur.toList.drop (q.length * 2), ?_, ?_⟩
  · rw [hg, ← ht, List.take_append_drop]
  · rw [← ht, List.take_append_drop]; simpa using hcs

theorem flight_apart {F : Nat → Prop} {w : World} {L : Value} {q : List (Pk × Value)} (h : Flight F w L q) {i j : Nat} (hi : i < q.length) (hj : j < q.length) (hne : i ≠ j) : ∀ k, q[i].2.ownBlock = some k → q[j].2.ownBlock ≠ some k := by
  have hp := List.pairwise_iff_getElem.1 h.apart
  intro k hk hk'
  rcases Nat.lt_or_gt_of_ne hne with hlt | hlt
  · exact hp i j hi hj hlt k hk hk'
  · exact hp j i hj hi hlt k hk' hk

/-- A packet less. -/
theorem flight_erase {F S : Nat → Prop} {w w' : World} {L L' : Value} {q : List (Pk × Value)} {j : Nat} (h : Flight F w L q) (hj : j < q.length) (hK : Keeps S w w')
    (hS : ∀ k, F k → L.ownBlock ≠ some k → (∀ cs t, w.heap[k]? = some (.cells cs t (0, 0)) → t = 5) → S k)
    (hrow : w'.ownsRow 0 48 2 L' (q.length - 1) (row2 (q.eraseIdx j))) (hL : ∀ k, L'.ownBlock = some k → F k ∧ w'.ownsRow 0 48 2 L' (q.length - 1) (row2 (q.eraseIdx j))) :
    Flight (fun k => F k ∧ q[j].2.ownBlock ≠ some k) w' L' (q.eraseIdx j) ∧ OwnB (fun k => q[j].2.ownBlock = some k) w' q[j].2 q[j].1.2 := by
  have hb : ∀ i (hi : i < q.length), OwnB F w' q[i].2 q[i].1.2 := fun i hi => by
    have ho := h.own q[i] (List.getElem_mem hi)
    refine ho.keepS hK fun k hk => hS k (ho.foot k hk) (own_ne ho.row h.row (by decide) hk) fun cs t hc => ?_
    by_cases ht : t = 5
    · exact ht
    · exact absurd hk (own_ne_heap ho.row hc (fun e => ht e.symm))
  have hlen : (q.eraseIdx j).length = q.length - 1 := by rw [List.length_eraseIdx]; simp [hj]
  refine ⟨⟨by rw [hlen]; exact hrow, ?_, h.apart.sublist (List.eraseIdx_sublist _ _), ?_⟩, (hb j hj).own_⟩
  · intro x hx
    obtain ⟨i, hi, hne, rfl⟩ := List.mem_eraseIdx_iff_getElem.1 hx
    exact ⟨(hb i hi).row, fun k hk => ⟨(hb i hi).foot k hk, flight_apart h hi hj hne k hk⟩, (hb i hi).len⟩
  · intro k hk
    refine ⟨(hL k hk).1, fun e => ?_⟩
    exact own_ne (hb j hj).row (hL k hk).2 (by decide) e hk

set_option maxHeartbeats 1000000 in
theorem utake_any (w : World) (F : Nat → Prop) (g lim : Nat) (L : Value) (q : List (Pk × Value)) (i : Int) (hN : UNet F w g lim L q) :
    Calls Try.prog 28 #[.pointer (some ⟨g, 0, none⟩), .int .i64 i] w (PostUTake F w g lim (takeS i (q.map (·.1)))) := by
  obtain ⟨LA, lc, hLs, hlc, hlm⟩ := own_slice hN.flight.row
  subst hLs
  have n1 := hN.cell1
  by_cases hi : 0 ≤ i ∧ i < q.length
  · obtain ⟨j, rfl⟩ := Int.eq_ofNat_of_zero_le hi.1
    have hj : j < q.length := by omega
    obtain ⟨b, c, A', c', hLe, _, _, hFb, hv, h0, h1, hc', hb⟩ := hN.flight.at_ hj
    have hroom := hN.room
    have hmost := hN.most
    have hqs : q.length ≤ 4096 := by omega
    injection hLe with hLA _ hcc
    subst hLA
    obtain ⟨_, _, _, _, rest, hblk, hbl⟩ := flight_block hN.flight (by omega)
    have hbl' : b < w.heap.size := lt_of_heap hblk
    have hgl : g < w.heap.size := lt_of_heap hN.head
    generalize hs : q[j] = x at *
    obtain ⟨⟨t, bs⟩, v⟩ := x
    simp only at hv h0 h1 hc' hb
    have HS := hid hs; clear hs hi hcc
    have Hbl := hid hbl; clear hbl
    go_enter Try.func28, Try.ntmps28
    go_wp2_with (go_at_call 53; refine (uthere_any _ g q.length lc (some ⟨b, 0, none⟩) j ?_).mono ?_)
    obtain ⟨W0, hW0⟩ : ∃ W0, W0 = (w.alloc (Obj.cells #[Value.int IntKind.u32 0, Value.slice none 0 0] 48)).alloc (Obj.cells #[Value.int IntKind.u32 t, Value.slice A' bs.length c'] 48) := ⟨_, rfl⟩
    rw [← hW0]
    have k0 : Old w W0 := by subst hW0; exact ((Keeps.refl _ _).alloc _).alloc _
    have z0 : W0.heap.size = w.heap.size + 2 := by subst hW0; simp
    have b0 : W0.heap[w.heap.size]? = some (.cells #[.int .u32 0, .slice none 0 0] 48 (0, 0)) := by subst hW0; rw [heap_at, if_neg (by simp), heap_at, if_pos rfl]
    have b1 : W0.heap[w.heap.size + 1]? = some (.cells #[.int .u32 t, .slice A' bs.length c'] 48 (0, 0)) := by subst hW0; rw [heap_at, if_pos (by simp)]
    have hN0 := hN.keep (k0.old F)
    have m1 := hN0.cell1
    have Z0 := hid z0; clear z0 hW0
    have l1 : IntKind.i64.wrap ((j : Int) + 1) = (j : Int) + 1 := by rw [IntKind.wrap_i64]; omega
    have l2 : (0 : Int) ≤ (j : Int) + 1 := by omega
    have l3 : ((j : Int) + 1).toNat = j + 1 := by omega
    have q1 : j ≤ q.length := by omega
    have q2 : j + 1 ≤ q.length := by omega
    have q3 : ¬ lc = j := by omega
    have l4 : (j : Int) + 1 ≤ (q.length : Int) := by omega
    refine wp_region_plan (fun w' => w'.cell? ⟨g, 1, none⟩ = some (.slice (some ⟨b, 0, none⟩) q.length lc)) [true, true, true, true, true, true, true, true, true, true, true, true, true, false] (by kernel_rfl) (by kernel_rfl) m1 ?_
    iterate 13 (refine plan_take (v := ?_) (by rfl) (fun w' hS => ?_) ?_; rotate_left 1; (go_simp; try with_reducible rfl); (simp only [Act.put, List.setIfInBounds_toArray, List.set_cons_zero, List.set_cons_succ]))
    refine plan_loud (by rfl) (fun K hK => ?_)
    have hblk0 := (k0.old (fun _ => True)).heap hblk trivial
    refine wp_copy_ex _ _ _ 34 34 48 2 (by rfl) Try.underlying34 (by kernel_rfl) (by omega) b (j * 2) (q.length - j) (lc - j) _ _ (q.length - (j + 1)) (lc - (j + 1)) (by rfl) (by rfl) (row2 q ++ rest) 48 (row2 (q.drop (j + 1))) hblk0 ?_ (fun _ => rfl) ?_ ?_ ?_ ?_
    · rw [row2_length, List.length_drop, show Nat.min (q.length - (j + 1)) (q.length - j) = q.length - (j + 1) from Nat.min_eq_left (by omega)]
    · intro hne
      refine ⟨⟨b, (j + 1) * 2, none⟩, ?_, ?_⟩
      · rw [if_neg]
        intro h
        apply hne
        have : q.drop (j + 1) = [] := List.drop_eq_nil_of_le (by omega)
        rw [this]; rfl
      · intro k u hu
        rw [Addr.add_lit]
        show W0.cell? ⟨b, (j + 1) * 2 + k, none⟩ = some u
        rw [cell_of_heap hblk0]
        rw [← row2_drop, List.getElem?_drop] at hu
        simp only [List.getElem?_toArray]
        rw [List.getElem?_append_left (List.getElem?_eq_some_iff.1 hu).1, hu]
    · rw [row2_length, List.length_drop, Hbl.out]; omega
    · exact row2_one _ fun x hx => (hN.flight.own x (List.mem_of_mem_drop hx)).one
    intro w1 hb1 k1 z1
    have m2 : w1.cell? ⟨g, 1, none⟩ = some (.slice (some ⟨b, 0, none⟩) q.length lc) := (k1.cell (p := ⟨g, 1, none⟩) (lt_of_cell m1) (fun h => own_ne_heap hN.flight.row hN.head (by decide) (show some b = some g by rw [← h]))).trans m1
    refine hK _ _ m2 ?_
    clear hK K
    generalize (if lc = j + 1 then (some ⟨b, 0, none⟩ : Option Addr) else some ⟨b, (j + 1) * 2, none⟩) = Ad
    refine plan_tail ?_
    go_wp2
    refine NoPanic.normal ?_
    go_wp2
    obtain ⟨X, hX, hXl, hXt⟩ : ∃ X : List Value, X = (row2 q ++ rest).take (j * 2) ++ row2 (q.drop (j + 1)) ++ (row2 q ++ rest).drop (j * 2 + (row2 (q.drop (j + 1))).length) ∧ X.length = lc * 2 ∧
        X.take ((q.length - 1) * 2) = row2 (q.eraseIdx j) := by
      refine ⟨_, rfl, ?_, ?_⟩
      · have := Hbl.out
        simp only [List.length_append, List.length_take, List.length_drop, row2_length] at this ⊢
        omega
      · have e1 : (row2 q ++ rest).take (j * 2) ++ row2 (q.drop (j + 1)) = row2 (q.eraseIdx j) := by
          rw [List.take_append_of_le_length (by rw [row2_length]; omega), row2_take, List.eraseIdx_eq_take_drop_succ, row2_append]
        rw [e1]
        refine List.take_left' ?_
        rw [row2_length, List.length_eraseIdx]; simp [hj]
    rw [← hX] at hb1
    clear hX
    obtain ⟨y0, hy0⟩ : ∃ y0, w1.cell? ⟨b, (q.length - 1) * 2, none⟩ = some y0 := ⟨X[(q.length - 1) * 2]'(by omega), by rw [cell_of_heap hb1]; simp⟩
    obtain ⟨y1, hy1⟩ : ∃ y1, w1.cell? ⟨b, (q.length - 1) * 2 + 1, none⟩ = some y1 := ⟨X[(q.length - 1) * 2 + 1]'(by omega), by rw [cell_of_heap hb1]; simp⟩
    have f0 : w1.frozen? ⟨b, (q.length - 1) * 2, none⟩ = false := frozen_of_heap hb1
    have f1 : w1.frozen? ⟨b, (q.length - 1) * 2 + 1, none⟩ = false := frozen_of_heap hb1
    have HXl := hid hXl; clear hXl
    have HXt := hid hXt; clear hXt
    have r1 : IntKind.i64.wrap ((q.length : Int) - 1) = (q.length : Int) - 1 := by rw [IntKind.wrap_i64]; omega
    have r2 : (0 : Int) ≤ (q.length : Int) - 1 := by omega
    have r3 : ((q.length : Int) - 1).toNat = q.length - 1 := by omega
    have r4 : (q.length : Int) - 1 < (q.length : Int) := by omega
    have r5 : (q.length : Int) - 1 ≤ (q.length : Int) := by omega
    refine wp_region_plan (fun w' => w'.cell? ⟨g, 1, none⟩ = some (.slice (some ⟨b, 0, none⟩) q.length lc)) [true, true, true, true, true, true, true, true, true, true, true, true] (by kernel_rfl) (by kernel_rfl) m2 ?_
    iterate 12 (refine plan_take (v := ?_) (by rfl) (fun w' hS => ?_) ?_; rotate_left 1; (go_simp <;> (try rw [if_pos (by omega)]) <;> (try with_reducible rfl)); (simp only [Act.put, List.setIfInBounds_toArray, List.set_cons_zero, List.set_cons_succ]))
    refine plan_tail ?_
    go_wp2
    refine NoPanic.normal ?_
    go_wp2
    obtain ⟨W2, hW2⟩ : ∃ W2, W2 = ((w1.setCell ⟨b, (q.length - 1) * 2, none⟩ (.int .u32 0)).setCell ⟨b, (q.length - 1) * 2 + 1, none⟩ (.slice none 0 0)).drew := ⟨_, rfl⟩
    rw [← hW2]
    have k2 : Keeps (· ≠ b) w1 W2 := by subst hW2; exact (((Keeps.refl _ _).setCell (fun _ h => h rfl) _).setCell (fun _ h => h rfl) _).drew
    have hb2 : W2.heap[b]? = some (.cells ((X.toArray.setIfInBounds ((q.length - 1) * 2) (.int .u32 0)).setIfInBounds ((q.length - 1) * 2 + 1) (.slice none 0 0)) 48 (0, 0)) := by
      subst hW2; exact heap_setCell (heap_setCell hb1 _) _
    have hgb : g ≠ b := fun h => own_ne_heap hN.flight.row hN.head (by decide) (show some b = some g by rw [← h])
    have m3 : W2.cell? ⟨g, 1, none⟩ = some (.slice (some ⟨b, 0, none⟩) q.length lc) := (k2.cell (p := ⟨g, 1, none⟩) (lt_of_cell m2) hgb).trans m2
    have k02 : Keeps (· ≠ b) W0 W2 := k1.ofDrew.trans' k2
    have hg2 := k02.heap hN0.head hgb
    have fg := frozen_of_heap (i := 1) hg2
    have hbne : w.heap.size ≠ b := by omega
    have hbne' : w.heap.size + 1 ≠ b := by omega
    have c0 := k02.heap b0 hbne
    have c1 := k02.heap b1 hbne'
    clear hW2 hy0 hy1 f0 f1 m2 m1
    refine wp_region_plan (fun w' => w'.cell? ⟨g, 1, none⟩ = some (.slice (some ⟨b, 0, none⟩) q.length lc)) [true, true, true, true, true, true, true, true, true, true, true, true] (by kernel_rfl) (by kernel_rfl) m3 ?_
    iterate 12 (refine plan_take (v := ?_) (by rfl) (fun w' hS => ?_) ?_; rotate_left 1; (go_simp <;> (try rw [if_pos (by omega)]) <;> (try with_reducible rfl)); (simp only [Act.put, List.setIfInBounds_toArray, List.set_cons_zero, List.set_cons_succ]))
    refine plan_tail ?_
    go_wp2
    refine NoPanic.normal ?_
    obtain ⟨W3, hW3⟩ : ∃ W3, W3 = (W2.setCell ⟨g, 1, none⟩ (.slice (some ⟨b, 0, none⟩) (q.length - 1) lc)).drew := ⟨_, rfl⟩
    rw [← hW3]
    have k3 : Keeps (· ≠ g) W2 W3 := by subst hW3; exact ((Keeps.refl _ _).setCell (fun _ h => h rfl) _).drew
    have hg3 : W3.heap[g]? = some (.cells #[.int .i64 (lim : Int), .slice (some ⟨b, 0, none⟩) (q.length - 1) lc] 72 (0, 0)) := by subst hW3; exact (heap_setCell hg2 _)
    have hb3 := k3.heap hb2 (Ne.symm hgb)
    have hgne : w.heap.size ≠ g := by omega
    have hgne' : w.heap.size + 1 ≠ g := by omega
    have d0 := k3.heap c0 hgne
    have d1 := k3.heap c1 hgne'
    have e0 : W3.cell? ⟨w.heap.size, 0, none⟩ = some (.int .u32 0) := cell_of_heap d0
    have e1 : W3.cell? ⟨w.heap.size, 1, none⟩ = some (.slice none 0 0) := cell_of_heap d0
    have e2 : W3.cell? ⟨w.heap.size + 1, 0, none⟩ = some (.int .u32 t) := cell_of_heap d1
    have e3 : W3.cell? ⟨w.heap.size + 1, 1, none⟩ = some (.slice A' bs.length c') := cell_of_heap d1
    have g0 := frozen_of_heap (i := 0) d0
    have g1 := frozen_of_heap (i := 1) d0
    clear hW3 m3 fg
    go_wp2
    refine bodyPost_ret (v := .tuple #[.agg #[.int .u32 t, .slice A' bs.length c'], .int .i64 0]) (by simp [results, Try.results28, go_sem, e0, e1]) rfl ?_
    have k4 : Keeps (· ≠ w.heap.size) W3 ((W3.setCell ⟨w.heap.size, 0, none⟩ (.int .u32 t)).setCell ⟨w.heap.size, 1, none⟩ (.slice A' bs.length c')) :=
      ((Keeps.refl _ _).setCell (fun _ h => h rfl) _).setCell (fun _ h => h rfl) _
    have hb4 := k4.heap hb3 (Ne.symm hbne)
    have hg4 := k4.heap hg3 (Ne.symm hgne)
    have K : Keeps (fun k => k ≠ g ∧ k ≠ b) w ((W3.setCell ⟨w.heap.size, 0, none⟩ (.int .u32 t)).setCell ⟨w.heap.size, 1, none⟩ (.slice A' bs.length c')) :=
      (((k0.old _).trans k02 (fun _ _ h => h.2)).trans k3 (fun _ _ h => h.1)).trans k4 (fun k hk _ h => by omega)
    generalize (W3.setCell ⟨w.heap.size, 0, none⟩ (.int .u32 t)).setCell ⟨w.heap.size, 1, none⟩ (.slice A' bs.length c') = W4 at K hb4 hg4 ⊢
    have hrow : W4.ownsRow 0 48 2 (.slice (some ⟨b, 0, none⟩) (q.length - 1) lc) (q.length - 1) (row2 (q.eraseIdx j)) := by
      refine ⟨by rw [row2_length, List.length_eraseIdx]; simp [hj], .inr ⟨b, lc, _, rfl, Nat.zero_le _, hb4, by omega, hlm, by simpa using HXl.out, ?_⟩⟩
      rw [← HXt.out]
      simp only [Array.toList_setIfInBounds]
      rw [List.take_set_of_le (by omega), List.take_set_of_le (by omega)]
    obtain ⟨hfl, hov⟩ := flight_erase hN.flight hj K (fun k hk hL ht => ⟨fun e => by subst e; exact absurd (ht _ _ hN.head) (by decide), fun e => by subst e; exact hL rfl⟩) hrow (fun k hk => by
      obtain rfl : b = k := by simpa [Value.ownBlock] using hk
      exact ⟨hFb, hrow⟩)
    have hgv : q[j].2.ownBlock ≠ some g := own_ne_heap (hN.flight.own _ (List.getElem_mem hj)).row hN.head (by decide)
    have hfoot := (hN.flight.own _ (List.getElem_mem hj)).foot
    have e := HS.out
    have hps : (q.map (·.1))[j]'(by simpa using hj) = (t, bs) := by simp [e]
    rw [e] at hov hfoot hgv
    simp only [e] at hfl
    refine ⟨_, _, _, _, v, ?_, ⟨hg4, hfl, ⟨hN.fg, hgv⟩, fun k hk => Nat.lt_of_lt_of_le (hN.lt k hk.1) K.size, hmost, ?_, fun x hx => hN.len x (List.mem_of_mem_eraseIdx hx)⟩, ?_, ?_, fun k h => h.1, fun k h => hfoot k h, fun k h h' => h.2 h', K.mono (fun k hk h => ⟨fun e => h (e ▸ hN.fg), fun e => h (e ▸ hFb)⟩)⟩
    · unfold takeS
      rw [dif_pos (by simp; omega)]
      simp only [Int.toNat_natCast, hps]
      rw [hv]
    · rw [List.length_eraseIdx]; simp [hj]; omega
    · unfold takeS
      rw [dif_pos (by simp; omega)]
      simp [List.eraseIdx_eq_take_drop_succ, List.map_take, List.map_drop]
    · unfold takeS
      rw [dif_pos (by simp; omega)]
      simp only [Int.toNat_natCast, hps]
      exact hov
  · have n1' : (w.alloc (.cells #[.int .u32 0, .slice none 0 0] 48)).cell? ⟨g, 1, none⟩ = some (.slice LA q.length lc) := by
      rw [World.cell?_alloc_lt _ _ _ (lt_of_cell n1)]; exact n1
    go_enter Try.func28, Try.ntmps28
    go_wp2_with (go_at_call 53; refine (uthere_no _ g q.length lc LA i n1' hi).mono ?_; rintro e w' ⟨rfl, rfl⟩)
    refine bodyPost_ret (v := .tuple #[.agg #[.int .u32 0, .slice none 0 0], .int .i64 3]) (by simp [results, Try.results28, go_sem]) rfl ?_
    have et : takeS i (q.map (·.1)) = ((0, []), 3, q.map (·.1)) := by unfold takeS; rw [dif_neg (by simpa using hi)]
    rw [et]
    exact ⟨F, fun _ => False, _, q, .slice none 0 0, rfl, hN.keep ((Keeps.refl _ _).alloc _), rfl, OwnB.nil _ _, fun k h => h, fun k h => h.elim, fun k _ h => h, (Keeps.refl _ _).alloc _⟩
end Go.Proofs.Ytgnndggbjipioaa
