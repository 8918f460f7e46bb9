/- weftlaw12.Pair.reopened: a journal is opened from what a crash leaves; what comes back is kept. Conditions: the pair and the book lie, apart; the table lies. -/
import Derived.Test.YtdpaaoeipconcaaDoorMKeep
import Derived.Test.YtdpaaoeipconcaaDoorMPut
namespace Go.Proofs.YtdpaaoeipconcaaDoor
open Go.RowKit

theorem open_few {d : Dk} {j : Jn} {recs : List (List UInt8)} (h : openJ d = some (j, recs)) : recs.length ≤ 100000 := by
  obtain ⟨a1, a2, _⟩ := readA_ok d.1
  obtain ⟨b1, b2, _⟩ := readA_ok d.2
  unfold openJ at h
  simp only at h
  split at h
  · simp at h
  · rename_i hsp
    have la := a2 fun e => hsp (.inl e)
    have lb := b2 fun e => hsp (.inr e)
    split at h
    · split at h
      · simp at h
      · injection h with h
        injection h with h1 h2
        subst h2
        simp
    · rename_i hw
      split at h
      · rename_i hb
        injection h with h
        injection h with h1 h2
        subst h2
        have hb3 : (readA d.2).state = 3 := by
          rcases hb with hb | hb
          · exact Decidable.not_not.1 fun e => hw ⟨hb, e⟩
          · exact hb.1
        obtain ⟨x1, x2, x3⟩ := b1 hb3
        omega
      · rename_i hb
        injection h with h
        injection h with h1 h2
        subst h2
        have ha3 : (readA d.1).state = 3 := Decidable.not_not.1 fun e => hb (.inl e)
        obtain ⟨x1, x2, x3⟩ := a1 ha3
        omega

/-- A pair from two journals. -/
theorem pair_new {F G : Nat → Prop} {w : World} {p gl gm B C : Nat} {j : Jn} {vA vB vP vA' vB' vP' : Value} {q q' : List (Wr × Value)} (hp : w.heap[p]? = some (.cells #[.pointer (some ⟨gl, 0, none⟩), .pointer (some ⟨gm, 0, none⟩)] 29 (0, 0))) (hL : LNet F w gl vA vB vP q j) (hR : RNet G w gm vA' vB' vP' q' j)
    (hF : ∀ k, F k → B ≤ k ∧ k < C) (hG : ∀ k, G k → C ≤ k) (hpB : p < B) (hBC : B ≤ C) : PairAt (fun k => k = p ∨ F k ∨ G k) w p (some j) := by
  refine ⟨.inl rfl, fun k hk => ?_, F, G, gl, gm, vA, vB, vP, q, vA', vB', vP', q', hp, hL, hR, fun k h1 h2 => by have := hF k h1; have := hG k h2; omega, fun k h => ⟨.inr (.inl h), fun e => by have := hF k h; omega⟩, fun k h => ⟨.inr (.inr h), fun e => by have := hG k h; omega⟩⟩
  rcases hk with rfl | hk | hk
  · exact lt_of_heap hp
  · exact hL.lt k hk
  · exact hR.lt k hk

def PostReo (R : Nat → Prop) (pb N Z p : Nat) (w : World) (e : Ending) (w' : World) : Prop :=
  e = .returned (.bool true) ∧ ∃ H' o', PairAt H' w' p o' ∧ wsN o' ≤ 1 ∧ (∀ k, H' k → k = p ∨ w.heap.size ≤ k) ∧ Bk (fun k => R k ∨ H' k) pb (N + 500000) (Z + 1000000000000) w' ∧ Keeps (fun k => R k ∧ k ≠ p) w w'

theorem Row1.btsT {w : World} {g c : Nat} {zs : List UInt8} (h : Row1 w 5 g c ((roomyB zs).map bv)) (hl : zs.length ≤ 100000000000 := by omega) : Bts (fun _ => True) w (some ⟨g, 0, none⟩) (roomyB zs) := by
  have h := h.bts (n := (roomyB zs).length) (Nat.le_refl _) (by rw [roomyB_length]; omega)
  rw [List.take_length] at h
  exact h.mono' fun _ _ => trivial

set_option maxRecDepth 10000 in
set_option maxHeartbeats 16000000 in
theorem reopened_any (w : World) (R H : Nat → Prop) (pb N Z p : Nat) (j : Jn) (n : Int) (hB : Bk R pb N Z w) (hP : PairAt H w p (some j)) (hHR : ∀ k, H k → R k) (hn0 : -9223372036854775808 ≤ n) (hn1 : n < 9223372036854775808) (hT : Tab w) (hR0 : R 0) (hw : j.ws.length ≤ 2900000000000) (hN : N ≤ 2000000000000) (hZ : Z ≤ 2000000000000000000) :
    Calls Tryd.prog 72 #[.pointer (some ⟨p, 0, none⟩), .int .i64 n, .pointer (some ⟨pb, 0, none⟩)] w (PostReo R pb N Z p w) := by
  obtain ⟨hHp, hHlt, F0, G0, gl0, gm0, vA0, vB0, vP0, q0, vA0', vB0', vP0', q0', hp, hL0, hR0', _, hF0, hG0⟩ := hP
  have hpl := hHlt p hHp
  have c0 : w.cell? ⟨p, 0, none⟩ = some (.pointer (some ⟨gl0, 0, none⟩)) := cell_of_heap hp
  have hlen := crashJ_len hL0.good n
  have hcl := lcrash_any w F0 gl0 vA0 vB0 vP0 q0 j n hL0 hn0 hn1 (by omega) hlen
  have hcr := fun (W : World) (hW : Old w W) => rcrash_any W G0 gm0 vA0' vB0' vP0' q0' j n (hR0'.keep (hW.old _)) hn0 hn1 (by omega)
  generalize crashJ j n = D at *
  obtain ⟨xs, ys⟩ := D
  simp only at hlen
  obtain ⟨hlx, hly⟩ := hlen
  obtain ⟨nx, hnx⟩ : ∃ nx, nx = xs.length + 64 := ⟨_, rfl⟩
  obtain ⟨ny, hny⟩ : ∃ ny, ny = ys.length + 64 := ⟨_, rfl⟩
  have ix : (xs.length : Int) ≤ (nx : Int) := by omega
  have iy : (ys.length : Int) ≤ (ny : Int) := by omega
  have hrox := fun (W : World) S A c (hb : Bts S W A xs) => roomy_any W S A c xs hb (by omega)
  have hroy := fun (W : World) S A c (hb : Bts S W A ys) => roomy_any W S A c ys hb (by omega)
  unfold PostRoom at hrox hroy
  rw [← hnx] at hrox
  rw [← hny] at hroy
  have hsx := fun (W : World) S T A B c d (h1 : Bts S W A (roomyB xs)) (h2 : Bts T W B (roomyB xs)) => same_any W S T A B c d _ _ h1 h2
  have hsy := fun (W : World) S T A B c d (h1 : Bts S W A (roomyB ys)) (h2 : Bts T W B (roomyB ys)) => same_any W S T A B c d _ _ h1 h2
  simp only [roomyB_length, decide_true] at hsx hsy
  rw [← hnx] at hsx
  rw [← hny] at hsy
  have HNX := hid (And.intro hnx hny)
  have HRO := hid (And.intro hrox hroy)
  have HSS := hid (And.intro hsx hsy)
  have HCR := hid hcr
  have HBK := hid (And.intro hB (And.intro hHR (And.intro hHp hHlt)))
  have HTT := hid (And.intro hT hR0)
  have HP := hid hp
  clear hnx hny hrox hroy hsx hsy hcr hB hHR hHp hHlt hL0 hR0' hF0 hG0 hT hR0
  go_enter Tryd.func72, Tryd.ntmps72
  go_wp2_with fail
  refine hcl.mono ?_
  rintro e w1 ⟨vA, vB, rfl, hA, hB, hAB, k1⟩
  clear hcl
  simp only at hA hB
  obtain ⟨Aa, ca, rfl, hca, _⟩ := hA.slice
  obtain ⟨Ba, cb, rfl, hcb, _⟩ := hB.slice
  obtain ⟨gd, hgd⟩ : ∃ gd, gd = w1.heap.size := ⟨_, rfl⟩
  obtain ⟨W2, hW2⟩ : ∃ W, W = w1.alloc (.cells #[.slice Aa xs.length ca, .slice Ba ys.length cb] 24) := ⟨_, rfl⟩
  have k2 : Old w1 W2 := by rw [hW2]; exact (Keeps.refl _ _).alloc _
  have hd0 : W2.heap[gd]? = some (.cells #[.slice Aa xs.length ca, .slice Ba ys.length cb] 24 (0, 0)) := by rw [hW2, hgd]; exact heap_alloc_new _ _
  have z1 := k1.size
  have z2 : W2.heap.size = gd + 1 := by rw [hW2, hgd]; simp
  have K2 := k1.trans' k2
  go_upto_region 2 with fail
  rw [← hW2, ← hgd]
  have HGD := hid hgd
  clear hW2 hgd
  have HAB := hid (And.intro (hA.keep (k2.old _)) (And.intro (hB.keep (k2.old _)) (And.intro hAB (And.intro (fun k hk => own_lt hA.row hk : ∀ k, (Value.slice Aa xs.length ca).ownBlock = some k → k < w1.heap.size) (fun k hk => own_lt hB.row hk : ∀ k, (Value.slice Ba ys.length cb).ownBlock = some k → k < w1.heap.size)))))
  clear hA hB hAB
  refine wp_region_tree (fun w' => w'.heap[gd]? = some (.cells #[.slice Aa xs.length ca, .slice Ba ys.length cb] 24 (0, 0))) 8
    (.take 0 (.take 1 (.take 3 (.take 4 (.one 2 (.one 5 (.take 6 (.take 7 .tail)))))))) (by kernel_rfl) (by kernel_rfl) hd0 ?_
  iterate 4 (refine pt_take (v := ?_) (by rfl) (by first | rfl | kernel_rfl) (fun w' hS => ?_) ?_; rotate_left 1; (have t0 : w'.cell? ⟨gd, 0, none⟩ = some (.slice Aa xs.length ca) := cell_of_heap hS; have t1 : w'.cell? ⟨gd, 1, none⟩ = some (.slice Ba ys.length cb) := cell_of_heap hS; clear hS; go_simp <;> (try with_reducible rfl)); (simp only [Act.put, List.setIfInBounds_toArray, List.set_cons_zero, List.set_cons_succ]))
  refine pt_one (by rfl) (loudly_of (by first | rfl | kernel_rfl) (fun K hK => ?_))
  have hca := HRO.out.1 W2.drew _ Aa ca (HAB.out.1.bts.keep ((Keeps.refl _ W2).drew))
  go_wp2_with fail
  refine hca.mono ?_
  rintro e wx ⟨rfl, hrx, kx'⟩
  clear hca
  have kx : Old W2 wx := kx'.ofDrew
  obtain ⟨gx, hgx⟩ : ∃ gx, gx = W2.heap.size := ⟨_, rfl⟩
  have hrx' : Row1 wx 5 gx nx ((roomyB xs).map bv) := by rw [hgx]; exact hrx
  have hd1 := kx.heap hd0 trivial
  have zx : gx < wx.heap.size := hrx'.lt
  refine hK _ _ hd1 ?_
  clear hK K hrx
  try simp only [show W2.drew.heap.size = W2.heap.size from rfl]
  rw [← hgx]
  have HGX := hid hgx
  clear hgx
  refine pt_one (by rfl) (loudly_of (by first | rfl | kernel_rfl) (fun K hK => ?_))
  have hca := HRO.out.2 wx _ Ba cb (HAB.out.2.1.bts.keep (kx.old _))
  go_wp2_with fail
  refine hca.mono ?_
  rintro e wy ⟨rfl, hry, ky⟩
  clear hca
  obtain ⟨gy, hgy⟩ : ∃ gy, gy = wx.heap.size := ⟨_, rfl⟩
  have hry' : Row1 wy 5 gy ny ((roomyB ys).map bv) := by rw [hgy]; exact hry
  have hd2 := ky.heap hd1 trivial
  have zy : gy < wy.heap.size := hry'.lt
  have hrx2 := hrx'.keep ky trivial
  refine hK _ _ hd2 ?_
  clear hK K hry
  rw [← hgy]
  have HGY := hid hgy
  clear hgy
  iterate 2 (refine pt_take (v := ?_) (by rfl) (by first | rfl | kernel_rfl) (fun w' hS => ?_) ?_; rotate_left 1; (have t0 : w'.cell? ⟨gd, 0, none⟩ = some (.slice Aa xs.length ca) := cell_of_heap hS; have t1 : w'.cell? ⟨gd, 1, none⟩ = some (.slice Ba ys.length cb) := cell_of_heap hS; clear hS; go_simp <;> (try with_reducible rfl)); (simp only [Act.put, List.setIfInBounds_toArray, List.set_cons_zero, List.set_cons_succ]))
  refine pt_tail (by rfl) ?_
  go_wp2
  refine NoPanic.normal ?_
  have K3 := (K2.trans' kx).trans' ky
  have kW2y := kx.trans' ky
  have hbx0 : Bts (fun _ => True) wy (some ⟨gx, 0, none⟩) xs := by
    have h := hrx2.bts (n := xs.length) (by rw [roomyB_length]; omega) (by omega)
    rw [roomyB_take] at h
    exact h.mono' fun _ _ => trivial
  have hby0 : Bts (fun _ => True) wy (some ⟨gy, 0, none⟩) ys := by
    have h := hry'.bts (n := ys.length) (by rw [roomyB_length]; omega) (by omega)
    rw [roomyB_take] at h
    exact h.mono' fun _ _ => trivial
  have hlo := lopen_any wy.drew _ _ _ xs.length ys.length nx ny xs ys (hbx0.keep ((Keeps.refl _ wy).drew)) (hby0.keep ((Keeps.refl _ wy).drew)) rfl rfl (by have := HNX.out; omega) (by have := HNX.out; omega) (HTT.out.1.keep ((K3.drew).old (fun _ => True)) trivial)
  have HZ := hid (show p < w.heap.size ∧ w.heap.size ≤ w1.heap.size ∧ w1.heap.size = gd ∧ gd < gx ∧ gx < gy ∧ gy < wy.heap.size from by
    have zgx := HGX.out
    have zgy := HGY.out
    have zgd := HGD.out
    have zkx := kx.size
    have zky := ky.size
    exact ⟨hpl, z1, zgd.symm, by omega, by omega, zy⟩)
  clear z2 zx zy z1 hpl
  have HRX := hid (And.intro hrx2 (And.intro hry' HAB.out))
  clear hrx' hrx2 hry' hd0 hd1 hbx0 hby0 kx ky kx'
  cases ho : openJ (xs, ys) with
  | none =>
    rw [ho] at hlo
    go_upto_region 3 with fail
    refine wp_region_tree (fun w' => w'.heap[gd]? = some (.cells #[.slice Aa xs.length ca, .slice Ba ys.length cb] 24 (0, 0))) 19
      (.take 0 (.take 1 (.take 2 (.take 3 (.take 4 (.take 5 (.take 6 (.take 7 (.take 8 (.take 9 (.take 10 (.one 11 (.take 12 (.take 13 (.take 14 (.take 15 (.take 16 (.take 17 (.take 18 .tail))))))))))))))))))) (by kernel_rfl) (by kernel_rfl) hd2 ?_
    iterate 11 (refine pt_take (v := ?_) (by rfl) (by first | rfl | kernel_rfl) (fun w' hS => ?_) ?_; rotate_left 1; (have t0 : w'.cell? ⟨gd, 0, none⟩ = some (.slice Aa xs.length ca) := cell_of_heap hS; have t1 : w'.cell? ⟨gd, 1, none⟩ = some (.slice Ba ys.length cb) := cell_of_heap hS; clear hS; go_simp <;> (try with_reducible rfl)); (simp only [Act.put, List.setIfInBounds_toArray, List.set_cons_zero, List.set_cons_succ]))
    refine pt_one (by rfl) (loudly_of (by first | rfl | kernel_rfl) (fun K hK => ?_))
    go_wp2_with fail
    refine hlo.mono ?_
    rintro e wl ⟨rfl, kl'⟩
    have kl : Old wy wl := kl'.ofDrew
    have K4 := K3.trans' kl
    have hd3 := kl.heap hd2 trivial
    refine hK _ _ hd3 ?_
    clear hK K hlo
    iterate 7 (refine pt_take (v := ?_) (by rfl) (by first | rfl | kernel_rfl) (fun w' hS => ?_) ?_; rotate_left 1; (have t0 : w'.cell? ⟨gd, 0, none⟩ = some (.slice Aa xs.length ca) := cell_of_heap hS; have t1 : w'.cell? ⟨gd, 1, none⟩ = some (.slice Ba ys.length cb) := cell_of_heap hS; clear hS; go_simp <;> (try with_reducible rfl)); (simp only [Act.put, List.setIfInBounds_toArray, List.set_cons_zero, List.set_cons_succ]))
    refine pt_tail (by rfl) ?_
    go_wp2
    refine NoPanic.normal ?_
    have hp3 := K4.heap HP.out trivial
    have u0 : wl.cell? ⟨p, 0, none⟩ = some (.pointer (some ⟨gl0, 0, none⟩)) := cell_of_heap hp3
    have u1 : wl.cell? ⟨p, 1, none⟩ = some (.pointer (some ⟨gm0, 0, none⟩)) := cell_of_heap hp3
    have hc4 := HCR.out wl K4
    go_wp2_with fail
    refine hc4.mono ?_
    rintro e w5 ⟨vA5, vB5, rfl, hA5, hB5, _, k5⟩
    clear hc4
    simp only at hA5 hB5
    obtain ⟨A5, c5, rfl, hc5, _⟩ := hA5.slice
    obtain ⟨B5, d5, rfl, hd5, _⟩ := hB5.slice
    have hro := ropen_any w5 _ A5 B5 xs.length ys.length c5 d5 xs ys hA5.bts hB5.bts rfl rfl hc5 hd5
    rw [ho] at hro
    clear hA5 hB5 hc5 hd5
    go_wp2_with fail
    refine hro.mono ?_
    rintro e w6 ⟨rfl, k6⟩
    have K6 := (K4.trans' k5).trans' k6
    have k46 := (kl.trans' k5).trans' k6
    clear hro u0 u1
    have hp6 := K6.heap HP.out trivial
    have e0 : w6.cell? ⟨p, 0, none⟩ = some (.pointer (some ⟨gl0, 0, none⟩)) := cell_of_heap hp6
    have e1 : w6.cell? ⟨p, 1, none⟩ = some (.pointer (some ⟨gm0, 0, none⟩)) := cell_of_heap hp6
    have ef : ∀ i, w6.frozen? ⟨p, i, none⟩ = false := fun i => frozen_of_heap hp6
    obtain ⟨W7, hW7⟩ : ∃ W, W = (w6.setCell ⟨p, 0, none⟩ (.pointer none)).setCell ⟨p, 1, none⟩ (.pointer none) := ⟨_, rfl⟩
    have hp7 : W7.heap[p]? = some (.cells #[.pointer none, .pointer none] 29 (0, 0)) := by
      rw [hW7, heap_setCell (heap_setCell hp6 _)]
      rfl
    have k7 : Keeps (· ≠ p) w6 W7 := by rw [hW7]; exact ((Keeps.refl _ _).setCell (fun _ h => h rfl) _).setCell (fun _ h => h rfl) _
    have z6 := K6.size
    have z7 := k7.size
    have K27 : Keeps (fun k => k ≠ p) wy W7 := (k46.old _).trans' k7
    have hdp : gd ≠ p := by have := HZ.out; omega
    have hd7 := K27.heap hd2 hdp
    have hls : Calls Tryd.prog 33 #[.slice none 0 0, .slice none 0 0] W7 (PostSame W7 true) := lists_any W7 (fun _ => False) (fun _ => False) none none 0 0 [] [] (Rcs.nil _ _ _) (Rcs.nil _ _ _)
    go_upto_region 7 with fail
    rw [← hW7]
    clear hW7 e0 e1 ef
    go_wp2_with fail
    refine hls.mono ?_
    rintro e w8 ⟨rfl, nd8, hw8⟩
    have k8 : Old W7 w8 := by rw [← hw8]; exact (Keeps.refl _ _).drewN _
    clear hw8 hls
    have hd8 := k8.heap hd7 trivial
    have g0 : w8.cell? ⟨gd, 0, none⟩ = some (.slice Aa xs.length ca) := cell_of_heap hd8
    have K28 : Keeps (fun k => k ≠ p) wy w8 := K27.trans' (k8.old _)
    have hca := HRO.out.1 w8 (fun k => k ≠ p) Aa ca (((HRX.out.2.2.1).bts.mono (fun k _ hk => by have h : w.heap.size ≤ k := hk; have := HZ.out; show k ≠ p; omega) : Bts (fun k => k ≠ p) W2 Aa xs).keep ((kW2y.old _).trans' K28))
    go_wp2_with fail
    refine hca.mono ?_
    rintro e w9 ⟨rfl, hr9, k9⟩
    clear hca
    have hxp : gx ≠ p := by have := HZ.out; omega
    have hyp : gy ≠ p := by have := HZ.out; omega
    have hca := HSS.out.1 w9 _ _ _ _ nx nx ((HRX.out.1.keep (K28.trans' (k9.old _)) hxp).btsT) hr9.btsT
    go_wp2_with fail
    refine hca.mono ?_
    rintro e w10 ⟨rfl, nd10, hw10⟩
    have k10 : Old w9 w10 := by rw [← hw10]; exact (Keeps.refl _ _).drewN _
    clear hw10 hca hr9
    have K210 : Keeps (fun k => k ≠ p) wy w10 := K28.trans' ((k9.trans' k10).old _)
    have hd10 := K210.heap hd2 hdp
    have g1 : w10.cell? ⟨gd, 1, none⟩ = some (.slice Ba ys.length cb) := cell_of_heap hd10
    have hca := HRO.out.2 w10 (fun k => k ≠ p) Ba cb (((HRX.out.2.2.2.1).bts.mono (fun k _ hk => by have h : w.heap.size ≤ k := hk; have := HZ.out; show k ≠ p; omega) : Bts (fun k => k ≠ p) W2 Ba ys).keep ((kW2y.old _).trans' K210))
    go_wp2_with fail
    refine hca.mono ?_
    rintro e w11 ⟨rfl, hr11, k11⟩
    clear hca
    have hca := HSS.out.2 w11 _ _ _ _ ny ny ((HRX.out.2.1.keep (K210.trans' (k11.old _)) hyp).btsT) hr11.btsT
    go_wp2_with fail
    refine hca.mono ?_
    rintro e w12 ⟨rfl, nd12, hw12⟩
    have k12 : Old w11 w12 := by rw [← hw12]; exact (Keeps.refl _ _).drewN _
    clear hw12 hca hr11
    have K712 : Old W7 w12 := (((k8.trans' k9).trans' k10).trans' k11).trans' k12
    have K212 : Keeps (fun k => k ≠ p) wy w12 := K27.trans' (K712.old _)
    obtain ⟨H', hH'⟩ : ∃ H' : Nat → Prop, H' = fun k => k = p := ⟨_, rfl⟩
    obtain ⟨FLp, hFLp⟩ : ∃ FLp : Nat → Prop, FLp = fun _ => False := ⟨_, rfl⟩
    obtain ⟨o', ho'⟩ : ∃ o' : Option Jn, o' = none := ⟨_, rfl⟩
    obtain ⟨ql, hqle⟩ : ∃ ql : List (List UInt8 × Value), ql = [] := ⟨_, rfl⟩
    have hp12 := K712.heap hp7 trivial
    have hPn : PairAt H' w12 p o' := by rw [hH', ho']; exact ⟨rfl, fun k hk => by rw [hk]; exact lt_of_heap hp12, hp12⟩
    have hoL : OwnR FLp w12 (.slice none 0 0) ql := by rw [hqle]; exact OwnR.nil _ _
    have hFL : ∀ k, FLp k → wy.heap.size ≤ k ∧ k < w12.heap.size := fun k hk => by rw [hFLp] at hk; exact hk.elim
    have hHF : ∀ k, H' k → ¬ FLp k := fun k _ hk => by rw [hFLp] at hk; exact hk
    have hHn : ∀ k, H' k → k = p ∨ (wy.heap.size ≤ k ∧ k < w12.heap.size) := fun k hk => by rw [hH'] at hk; exact .inl hk
    have hwsn : wsN o' ≤ 1 := by rw [ho']; exact Nat.zero_le _
    have hqs : ∀ x ∈ ql, x.1.length ≤ 65536 := by rw [hqle]; simp
    have hql : ql.length ≤ 100000 := by rw [hqle]; simp
    clear hH' hFLp ho' hqle hp12 hp7 k46 k7 K27 K28 K210 K712 k8 k9 k10 k11 k12 hd7 hd8 hd10 g0 g1 K6 hp6 K4 hp3 kl k5 k6 kl' hd3
    obtain ⟨hB0, hHR, hHp, hHlt⟩ := HBK.out
    have hzs := HZ.out
    have hRl : ∀ k, R k → k < w.heap.size := hB0.1
    have hz12 : wy.heap.size ≤ w12.heap.size := K212.size
    have kRw : Keeps (fun k => ¬ R k) w w12 := (K3.old _).trans' (K212.mono fun k _ hk e => hk (by rw [e]; exact hHR p hHp))
    have hBt := hB0.keep kRw
    have hd12 := K212.heap hd2 hdp
    have q0 : w12.cell? ⟨gd, 0, none⟩ = some (.slice Aa xs.length ca) := cell_of_heap hd12
    obtain ⟨hrx, hry, hA, hB, hAB, hAl, hBl⟩ := HRX.out
    have KW := (kW2y.old (fun k => k ≠ p)).trans' K212
    have hA12 := hA.own_.keep (KW.mono fun k _ hk e => by have h' : w.heap.size ≤ k := hA.foot k hk; omega)
    have hB12 := hB.own_.keep (KW.mono fun k _ hk e => by have h' : w.heap.size ≤ k := hB.foot k hk; omega)
    have hrx := hrx.keep K212 hxp
    have hry := hry.keep K212 hyp
    obtain ⟨T, hTd⟩ : ∃ T : Nat → Prop, T = fun k => R k ∨ k = gd ∨ (wy.heap.size ≤ k ∧ k < w12.heap.size) := ⟨_, rfl⟩
    have hTv : ∀ k, T k → (Value.slice Aa xs.length ca).ownBlock ≠ some k ∧ (Value.slice Ba ys.length cb).ownBlock ≠ some k ∧ gx ≠ k ∧ gy ≠ k := fun k hk => by
      rw [hTd] at hk
      rcases hk with hk | hk | hk
      · have h1 := hRl k hk
        exact ⟨fun e => by have h' : w.heap.size ≤ k := hA.foot k e; omega, fun e => by have h' : w.heap.size ≤ k := hB.foot k e; omega, by omega, by omega⟩
      · exact ⟨fun e => by have := hAl k e; omega, fun e => by have := hBl k e; omega, by omega, by omega⟩
      · exact ⟨fun e => by have := hAl k e; omega, fun e => by have := hBl k e; omega, by omega, by omega⟩
    have hT1 : ∀ k, T k → R k ∨ (w.heap.size ≤ k ∧ k < w12.heap.size) := fun k hk => by
      rw [hTd] at hk
      rcases hk with hk | hk | hk
      · exact .inl hk
      · right; omega
      · right; omega
    have hTR : ∀ k, R k → T k := fun k hk => by rw [hTd]; exact .inl hk
    have hTg : T gd := by rw [hTd]; exact .inr (.inl rfl)
    have hTn : ∀ k, wy.heap.size ≤ k ∧ k < w12.heap.size → T k := fun k hk => by rw [hTd]; exact .inr (.inr hk)
    have HHH := hid (And.intro hPn (And.intro hoL (And.intro hTv (And.intro hT1 (And.intro hTR (And.intro hTn (And.intro hFL (And.intro hHF (And.intro hHn (And.intro hwsn (And.intro hqs (And.intro hql (And.intro kRw hRl)))))))))))))
    have HKK := hid (And.intro K3 K212)
    have HRR := hid (And.intro hrx (And.intro hry (And.intro hAB (And.intro hAl hBl))))
    have hk1 := keep_bk hBt (by omega) (by omega) (KeepR.ofOwn hA12 fun k hk => .inr ⟨hA.foot k hk, by have := hAl k hk; omega⟩) (by omega)
    have HTD := hid hTg
    clear hPn hoL hTv hT1 hTR hTn hFL hHF hHn hwsn hqs kRw hRl hTd hrx hry hBt hA12 hA hTg hHR hHp hHlt hB0 KW
    go_wp2_with fail
    refine hk1.mono ?_
    rintro e v1 ⟨rfl, hB1, kk1⟩
    clear hk1 q0
    obtain ⟨hPn, hoL, hTv, hT1, hTR, hTn, hFL, hHF, hHn, hwsn, hqs, hql, kRw, hRl⟩ := HHH.out
    obtain ⟨hrx, hry, hAB, hAl, hBl⟩ := HRR.out
    have kT1 : Keeps T w12 v1 := kk1.mono fun k _ hk => ⟨hT1 k hk, (hTv k hk).1⟩
    have hdv1 := kT1.heap hd12 HTD.out
    have q1 : v1.cell? ⟨gd, 1, none⟩ = some (.slice Ba ys.length cb) := cell_of_heap hdv1
    have hB13 := hB12.keep (kk1.mono fun k _ hk => ⟨.inr ⟨hB.foot k hk, by have := hBl k hk; omega⟩, fun e => hAB k e hk⟩)
    have hrx1 := hrx.keep kk1 ⟨.inr ⟨by omega, by omega⟩, fun e => by have := hAl _ e; omega⟩
    have hry1 := hry.keep kk1 ⟨.inr ⟨by omega, by omega⟩, fun e => by have := hAl _ e; omega⟩
    have hk2 := keep_bk hB1 (by omega) (by omega) (KeepR.ofOwn hB13 fun k hk => ⟨.inr ⟨hB.foot k hk, by have := hBl k hk; omega⟩, fun e => hAB k e hk⟩) (by omega)
    have HRR1 := hid (And.intro hrx1 (And.intro hry1 kT1))
    clear hPn hoL hTv hT1 hTR hTn hFL hHF hHn hwsn hqs kRw hRl hrx hry hAB hAl hBl kk1 hB1 hB12 hB13 hB hrx1 hry1 kT1
    go_wp2_with fail
    refine hk2.mono ?_
    rintro e v2 ⟨rfl, hB2, kk2⟩
    clear hk2 q1
    obtain ⟨hPn, hoL, hTv, hT1, hTR, hTn, hFL, hHF, hHn, hwsn, hqs, hql, kRw, hRl⟩ := HHH.out
    obtain ⟨_, _, hAB, hAl, hBl⟩ := HRR.out
    obtain ⟨hrx1, hry1, kT1⟩ := HRR1.out
    have kT2 : Keeps T v1 v2 := kk2.mono fun k _ hk => ⟨⟨hT1 k hk, (hTv k hk).1⟩, (hTv k hk).2.1⟩
    have hdv2 := kT2.heap hdv1 HTD.out
    have q2 : v2.cell? ⟨gd, 0, none⟩ = some (.slice Aa xs.length ca) := cell_of_heap hdv2
    have hgx3 : ((R gx ∨ (w.heap.size ≤ gx ∧ gx < w12.heap.size)) ∧ (Value.slice Aa xs.length ca).ownBlock ≠ some gx) ∧ (Value.slice Ba ys.length cb).ownBlock ≠ some gx := ⟨⟨.inr ⟨by omega, by omega⟩, fun e => by have := hAl _ e; omega⟩, fun e => by have := hBl _ e; omega⟩
    have hgy3 : ((R gy ∨ (w.heap.size ≤ gy ∧ gy < w12.heap.size)) ∧ (Value.slice Aa xs.length ca).ownBlock ≠ some gy) ∧ (Value.slice Ba ys.length cb).ownBlock ≠ some gy := ⟨⟨.inr ⟨by omega, by omega⟩, fun e => by have := hAl _ e; omega⟩, fun e => by have := hBl _ e; omega⟩
    have hrx2 := hrx1.keep kk2 hgx3
    have hry2 := hry1.keep kk2 hgy3
    have hnx := HNX.out.1
    have hny := HNX.out.2
    have hk3 := keep_bk hB2 (by omega) (by omega) (lv := .slice (some ⟨gx, 0, none⟩) xs.length nx) (n := xs.length) (.inr ⟨gx, nx, rfl, by simpa using hrx2.take 0, by omega, by unfold maxLen; omega, hgx3⟩) (by omega)
    have HRR2 := hid (And.intro hry2 (And.intro (kT1.trans' kT2) hgy3))
    clear hPn hoL hTv hT1 hTR hTn hFL hHF hHn hwsn hqs kRw hRl hAB hAl hBl kk2 hB2 hrx1 hry1 kT1 kT2 hrx2 hry2 hgx3 hgy3 hnx hny
    go_wp2_with fail
    refine hk3.mono ?_
    rintro e v3 ⟨rfl, hB3, kk3⟩
    clear hk3 q2
    obtain ⟨hPn, hoL, hTv, hT1, hTR, hTn, hFL, hHF, hHn, hwsn, hqs, hql, kRw, hRl⟩ := HHH.out
    obtain ⟨hry2, kT2, hgy3⟩ := HRR2.out
    have kT3 : Keeps T v2 v3 := kk3.mono fun k _ hk => ⟨⟨⟨hT1 k hk, (hTv k hk).1⟩, (hTv k hk).2.1⟩, fun e => by injection e with e; exact (hTv k hk).2.2.1 e⟩
    have hdv3 := kT3.heap hdv2 HTD.out
    have q3 : v3.cell? ⟨gd, 1, none⟩ = some (.slice Ba ys.length cb) := cell_of_heap hdv3
    have hgy4 : (((R gy ∨ (w.heap.size ≤ gy ∧ gy < w12.heap.size)) ∧ (Value.slice Aa xs.length ca).ownBlock ≠ some gy) ∧ (Value.slice Ba ys.length cb).ownBlock ≠ some gy) ∧ (Value.slice (some ⟨gx, 0, none⟩) xs.length nx).ownBlock ≠ some gy := ⟨hgy3, fun e => by injection e with e; have e' : gx = gy := e; omega⟩
    have hry3 := hry2.keep kk3 hgy4
    have hnx := HNX.out.1
    have hny := HNX.out.2
    have hk4 := keep_bk hB3 (by omega) (by omega) (lv := .slice (some ⟨gy, 0, none⟩) ys.length ny) (n := ys.length) (.inr ⟨gy, ny, rfl, by simpa using hry3.take 0, by omega, by unfold maxLen; omega, hgy4⟩) (by omega)
    have HRR3 := hid (kT2.trans' kT3)
    clear hPn hoL hTv hT1 hTR hTn hFL hHF hHn hwsn hqs kRw hRl kk3 hB3 kT2 kT3 hry2 hry3 hgy3 hgy4 hnx hny
    go_wp2_with fail
    refine hk4.mono ?_
    rintro e v4 ⟨rfl, hB4, kk4⟩
    clear hk4 q3
    obtain ⟨hPn, hoL, hTv, hT1, hTR, hTn, hFL, hHF, hHn, hwsn, hqs, hql, kRw, hRl⟩ := HHH.out
    have kT4 : Keeps T v3 v4 := kk4.mono fun k _ hk => ⟨⟨⟨⟨hT1 k hk, (hTv k hk).1⟩, (hTv k hk).2.1⟩, fun e => by injection e with e; exact (hTv k hk).2.2.1 e⟩, fun e => by injection e with e; exact (hTv k hk).2.2.2 e⟩
    have hT5 : ∀ k, T k → ((((R k ∨ (w.heap.size ≤ k ∧ k < w12.heap.size)) ∧ (Value.slice Aa xs.length ca).ownBlock ≠ some k) ∧ (Value.slice Ba ys.length cb).ownBlock ≠ some k) ∧ (Value.slice (some ⟨gx, 0, none⟩) xs.length nx).ownBlock ≠ some k) ∧ (Value.slice (some ⟨gy, 0, none⟩) ys.length ny).ownBlock ≠ some k := fun k hk => ⟨⟨⟨⟨hT1 k hk, (hTv k hk).1⟩, (hTv k hk).2.1⟩, fun e => by injection e with e; exact (hTv k hk).2.2.1 e⟩, fun e => by injection e with e; exact (hTv k hk).2.2.2 e⟩
    have kT := HRR3.out.trans' kT4
    have hoL4 := hoL.keep (kT.mono fun k _ hk => hTn k (hFL k hk))
    have hsum := keepSum_le' (q := ql) (B := 65536) hqs
    have hprod : ql.length * (65536 + 400) ≤ 100000 * (65536 + 400) := Nat.mul_le_mul_right _ hql
    have hk5 := keepAll_bk hB4 (by omega) (by omega) hoL4 (fun k hk => hT5 k (hTn k (hFL k hk))) (by omega) (fun x hx => by have := hqs x hx; omega) (by omega)
    have HL := hid (And.intro kT (And.intro hT5 (And.intro hsum hprod)))
    clear hPn hoL hTv hT1 hTR hTn hFL hHF hHn hwsn hqs kRw hRl kk4 hB4 kT kT4 hT5 hoL4 hsum hprod
    go_wp2_with fail
    refine hk5.mono ?_
    rintro e v5 ⟨rfl, hB5, kk5⟩
    clear hk5
    obtain ⟨hPn, hoL, hTv, hT1, hTR, hTn, hFL, hHF, hHn, hwsn, hqs, hql, kRw, hRl⟩ := HHH.out
    obtain ⟨kT, hT5, hsum, hprod⟩ := HL.out
    obtain ⟨K3, K212⟩ := HKK.out
    have hTH : ∀ k, H' k → T k := fun k hk => by
      rcases hHn k hk with h' | h'
      · rw [h']; exact hTR p (HBK.out.2.1 p HBK.out.2.2.1)
      · exact hTn k h'
    have hTF : ∀ k, R k → ¬ FLp k := fun k hk hf => by have := hFL k hf; have := hRl k hk; omega
    have HR := hid (show PostReo R pb N Z p w (.returned (.bool true)) v5 from by
      refine ⟨rfl, H', o', (hPn.keep (kT.mono fun k _ hk => hTH k hk)).keep (kk5.mono fun k _ hk => ⟨hT5 k (hTH k hk), hHF k hk⟩), hwsn, fun k hk => ?_, (hB5.less fun k hk => ?_).more (by omega) (by omega), ?_⟩
      · rcases hHn k hk with h' | h'
        · exact .inl h'
        · right; omega
      · rcases hk with hk | hk
        · exact ⟨hT5 k (hTR k hk), hTF k hk⟩
        · exact ⟨hT5 k (hTH k hk), hHF k hk⟩
      · exact ((K3.old _).trans' (K212.mono fun k _ hk => hk.2)).trans' ((kT.mono fun k _ hk => hTR k hk.1).trans' (kk5.mono fun k _ hk => ⟨hT5 k (hTR k hk.1), hTF k hk.1⟩)))
    clear hPn hoL hTv hT1 hTR hTn hFL hHF hHn hwsn hqs kRw hRl kT hT5 hsum hprod K3 K212 hTH hTF hB5 kk5
    go_wp2
    go_ret
    exact HR.out
  | some jr =>
    obtain ⟨j2, recs⟩ := jr
    rw [ho] at hlo
    go_upto_region 3 with fail
    refine wp_region_tree (fun w' => w'.heap[gd]? = some (.cells #[.slice Aa xs.length ca, .slice Ba ys.length cb] 24 (0, 0))) 19
      (.take 0 (.take 1 (.take 2 (.take 3 (.take 4 (.take 5 (.take 6 (.take 7 (.take 8 (.take 9 (.take 10 (.one 11 (.take 12 (.take 13 (.take 14 (.take 15 (.take 16 (.take 17 (.take 18 .tail))))))))))))))))))) (by kernel_rfl) (by kernel_rfl) hd2 ?_
    iterate 11 (refine pt_take (v := ?_) (by rfl) (by first | rfl | kernel_rfl) (fun w' hS => ?_) ?_; rotate_left 1; (have t0 : w'.cell? ⟨gd, 0, none⟩ = some (.slice Aa xs.length ca) := cell_of_heap hS; have t1 : w'.cell? ⟨gd, 1, none⟩ = some (.slice Ba ys.length cb) := cell_of_heap hS; clear hS; go_simp <;> (try with_reducible rfl)); (simp only [Act.put, List.setIfInBounds_toArray, List.set_cons_zero, List.set_cons_succ]))
    refine pt_one (by rfl) (loudly_of (by first | rfl | kernel_rfl) (fun K hK => ?_))
    go_wp2_with fail
    refine hlo.mono ?_
    rintro e wl ⟨F, gl, vA3, vB3, vP3, q3, L3, ql, rfl, hL, hF, hqm, hoL0, kl'⟩
    have kl : Old wy wl := kl'.ofDrew
    have hcnt := open_few ho
    have hlen3 : ql.length = recs.length := by rw [← hqm]; simp
    obtain ⟨AL, cL, hLs, _, hRL⟩ := hoL0.rcs (by omega)
    rw [hqm] at hRL
    subst hLs
    have hF' : ∀ k, F k → wy.heap.size ≤ k ∧ k < wl.heap.size := fun k hk => ⟨hF k hk, hL.lt k hk⟩
    have HLS := hid (And.intro hL (And.intro hF' (And.intro hqm (And.intro hoL0 (And.intro hlen3 hRL)))))
    clear hL hF hF' hqm hoL0 hRL
    have K4 := K3.trans' kl
    have hd3 := kl.heap hd2 trivial
    refine hK _ _ hd3 ?_
    clear hK K hlo
    iterate 7 (refine pt_take (v := ?_) (by rfl) (by first | rfl | kernel_rfl) (fun w' hS => ?_) ?_; rotate_left 1; (have t0 : w'.cell? ⟨gd, 0, none⟩ = some (.slice Aa xs.length ca) := cell_of_heap hS; have t1 : w'.cell? ⟨gd, 1, none⟩ = some (.slice Ba ys.length cb) := cell_of_heap hS; clear hS; go_simp <;> (try with_reducible rfl)); (simp only [Act.put, List.setIfInBounds_toArray, List.set_cons_zero, List.set_cons_succ]))
    refine pt_tail (by rfl) ?_
    go_wp2
    refine NoPanic.normal ?_
    have hp3 := K4.heap HP.out trivial
    have u0 : wl.cell? ⟨p, 0, none⟩ = some (.pointer (some ⟨gl0, 0, none⟩)) := cell_of_heap hp3
    have u1 : wl.cell? ⟨p, 1, none⟩ = some (.pointer (some ⟨gm0, 0, none⟩)) := cell_of_heap hp3
    have hc4 := HCR.out wl K4
    go_wp2_with fail
    refine hc4.mono ?_
    rintro e w5 ⟨vA5, vB5, rfl, hA5, hB5, _, k5⟩
    clear hc4
    simp only at hA5 hB5
    obtain ⟨A5, c5, rfl, hc5, _⟩ := hA5.slice
    obtain ⟨B5, d5, rfl, hd5, _⟩ := hB5.slice
    have hro := ropen_any w5 _ A5 B5 xs.length ys.length c5 d5 xs ys hA5.bts hB5.bts rfl rfl hc5 hd5
    rw [ho] at hro
    clear hA5 hB5 hc5 hd5
    go_wp2_with fail
    refine hro.mono ?_
    rintro e w6 ⟨G, gm, vA4, vB4, vP4, q4, M, qm, rfl, hR, hG, hqm2, hoM, k6⟩
    have K6 := (K4.trans' k5).trans' k6
    have k46 := (kl.trans' k5).trans' k6
    have hlenm : qm.length = recs.length := by rw [← hqm2]; simp
    obtain ⟨AM, cM, hMs, _, hRM⟩ := hoM.rcs (by omega)
    rw [hqm2] at hRM
    rw [hlenm] at hMs
    subst hMs
    clear hro u0 u1
    have hp6 := K6.heap HP.out trivial
    have e0 : w6.cell? ⟨p, 0, none⟩ = some (.pointer (some ⟨gl0, 0, none⟩)) := cell_of_heap hp6
    have e1 : w6.cell? ⟨p, 1, none⟩ = some (.pointer (some ⟨gm0, 0, none⟩)) := cell_of_heap hp6
    have ef : ∀ i, w6.frozen? ⟨p, i, none⟩ = false := fun i => frozen_of_heap hp6
    obtain ⟨W7, hW7⟩ : ∃ W, W = (w6.setCell ⟨p, 0, none⟩ (.pointer (some ⟨gl, 0, none⟩))).setCell ⟨p, 1, none⟩ (.pointer (some ⟨gm, 0, none⟩)) := ⟨_, rfl⟩
    have hp7 : W7.heap[p]? = some (.cells #[.pointer (some ⟨gl, 0, none⟩), .pointer (some ⟨gm, 0, none⟩)] 29 (0, 0)) := by
      rw [hW7, heap_setCell (heap_setCell hp6 _)]
      rfl
    have k7 : Keeps (· ≠ p) w6 W7 := by rw [hW7]; exact ((Keeps.refl _ _).setCell (fun _ h => h rfl) _).setCell (fun _ h => h rfl) _
    have z6 := K6.size
    have z7 := k7.size
    have K27 : Keeps (fun k => k ≠ p) wy W7 := (k46.old _).trans' k7
    have hdp : gd ≠ p := by have := HZ.out; omega
    have hd7 := K27.heap hd2 hdp
    obtain ⟨hL, hF', hqm, hoL0, hlen3, hRL⟩ := HLS.out
    have hzs := HZ.out
    have zkl : wy.heap.size ≤ wl.heap.size := kl.size
    have zk5 := k5.size
    have zk6 := k6.size
    have kl7 : Keeps (fun k => k ≠ p) wl W7 := ((k5.trans' k6).old _).trans' k7
    have hls := lists_any W7 (fun k => k ≠ p) (fun k => k ≠ p) AL AM cL cM recs recs ((hRL.mono fun k _ (h : wy.heap.size ≤ k ∧ ¬ F k) => (by have := h.1; omega : k ≠ p)).keep kl7) ((hRM.mono fun k _ (h : w5.heap.size ≤ k ∧ ¬ G k) => (by have := h.1; omega : k ≠ p)).keep k7)
    rw [decide_eq_true (show recs = recs from rfl)] at hls
    have HLR := hid (And.intro hlen3 (And.intro hR (And.intro hG (And.intro kl7 (And.intro zkl (And.intro zk5 zk6))))))
    clear hL hF' hqm hoL0 hRL hRM hoM hqm2 hlenm hlen3 kl7 hzs hR hG zkl zk5 zk6
    go_upto_region 7 with fail
    rw [← hW7]
    clear hW7 e0 e1 ef
    go_wp2_with fail
    refine hls.mono ?_
    rintro e w8 ⟨rfl, nd8, hw8⟩
    have k8 : Old W7 w8 := by rw [← hw8]; exact (Keeps.refl _ _).drewN _
    clear hw8 hls
    have hd8 := k8.heap hd7 trivial
    have g0 : w8.cell? ⟨gd, 0, none⟩ = some (.slice Aa xs.length ca) := cell_of_heap hd8
    have K28 : Keeps (fun k => k ≠ p) wy w8 := K27.trans' (k8.old _)
    have hca := HRO.out.1 w8 (fun k => k ≠ p) Aa ca (((HRX.out.2.2.1).bts.mono (fun k _ hk => by have h : w.heap.size ≤ k := hk; have := HZ.out; show k ≠ p; omega) : Bts (fun k => k ≠ p) W2 Aa xs).keep ((kW2y.old _).trans' K28))
    go_wp2_with fail
    refine hca.mono ?_
    rintro e w9 ⟨rfl, hr9, k9⟩
    clear hca
    have hxp : gx ≠ p := by have := HZ.out; omega
    have hyp : gy ≠ p := by have := HZ.out; omega
    have hca := HSS.out.1 w9 _ _ _ _ nx nx ((HRX.out.1.keep (K28.trans' (k9.old _)) hxp).btsT) hr9.btsT
    go_wp2_with fail
    refine hca.mono ?_
    rintro e w10 ⟨rfl, nd10, hw10⟩
    have k10 : Old w9 w10 := by rw [← hw10]; exact (Keeps.refl _ _).drewN _
    clear hw10 hca hr9
    have K210 : Keeps (fun k => k ≠ p) wy w10 := K28.trans' ((k9.trans' k10).old _)
    have hd10 := K210.heap hd2 hdp
    have g1 : w10.cell? ⟨gd, 1, none⟩ = some (.slice Ba ys.length cb) := cell_of_heap hd10
    have hca := HRO.out.2 w10 (fun k => k ≠ p) Ba cb (((HRX.out.2.2.2.1).bts.mono (fun k _ hk => by have h : w.heap.size ≤ k := hk; have := HZ.out; show k ≠ p; omega) : Bts (fun k => k ≠ p) W2 Ba ys).keep ((kW2y.old _).trans' K210))
    go_wp2_with fail
    refine hca.mono ?_
    rintro e w11 ⟨rfl, hr11, k11⟩
    clear hca
    have hca := HSS.out.2 w11 _ _ _ _ ny ny ((HRX.out.2.1.keep (K210.trans' (k11.old _)) hyp).btsT) hr11.btsT
    go_wp2_with fail
    refine hca.mono ?_
    rintro e w12 ⟨rfl, nd12, hw12⟩
    have k12 : Old w11 w12 := by rw [← hw12]; exact (Keeps.refl _ _).drewN _
    clear hw12 hca hr11
    have K712 : Old W7 w12 := (((k8.trans' k9).trans' k10).trans' k11).trans' k12
    have K212 : Keeps (fun k => k ≠ p) wy w12 := K27.trans' (K712.old _)
    obtain ⟨hL, hF', hqm, hoL0, _, _⟩ := HLS.out
    obtain ⟨hlen3, hR, hG, kl7, zkl, zk5, zk6⟩ := HLR.out
    have hzs := HZ.out
    obtain ⟨H', hH'⟩ : ∃ H' : Nat → Prop, H' = fun k => k = p ∨ F k ∨ G k := ⟨_, rfl⟩
    obtain ⟨FLp, hFLp⟩ : ∃ FLp : Nat → Prop, FLp = fun k => (wy.heap.size ≤ k ∧ ¬ F k) ∧ k < wl.heap.size := ⟨_, rfl⟩
    obtain ⟨o', ho'⟩ : ∃ o' : Option Jn, o' = some j2 := ⟨_, rfl⟩
    have hp12 := K712.heap hp7 trivial
    have z712 := K712.size
    have kl12 : Keeps (fun k => k ≠ p) wl w12 := kl7.trans' (K712.old _)
    have hR12 := (hR.keep (k7.mono fun k _ hk => by have h' : w5.heap.size ≤ k := hG k hk; show k ≠ p; omega)).keep (K712.old _)
    have hPn : PairAt H' w12 p o' := by
      rw [hH', ho']
      exact pair_new (B := wy.heap.size) (C := wl.heap.size) hp12 (hL.keep (kl12.mono fun k _ hk => by have := hF' k hk; show k ≠ p; omega)) hR12 hF' (fun k hk => by have h' : w5.heap.size ≤ k := hG k hk; omega) (by omega) zkl
    have hoL : OwnR FLp w12 (.slice AL recs.length cL) ql := by
      rw [hFLp, ← hlen3]
      refine (hoL0.mono fun k hk (h : wy.heap.size ≤ k ∧ ¬ F k) => ⟨h, hk⟩).keep (kl12.mono fun k _ hk => ?_)
      have := hk.1.1
      show k ≠ p
      omega
    have hFL : ∀ k, FLp k → wy.heap.size ≤ k ∧ k < w12.heap.size := fun k hk => by rw [hFLp] at hk; have h1 := hk.1.1; have h2 := hk.2; omega
    have hHF : ∀ k, H' k → ¬ FLp k := fun k h hk => by
      rw [hFLp] at hk
      rw [hH'] at h
      have h1 := hk.1.1
      have h2 := hk.2
      rcases h with h | h | h
      · omega
      · exact hk.1.2 h
      · have h' : w5.heap.size ≤ k := hG k h
        omega
    have hHn : ∀ k, H' k → k = p ∨ (wy.heap.size ≤ k ∧ k < w12.heap.size) := fun k h => by
      rw [hH'] at h
      rcases h with h | h | h
      · exact .inl h
      · have := hF' k h; right; omega
      · have h' : w5.heap.size ≤ k := hG k h
        have := hR12.lt k h
        right; omega
    have hwsn : wsN o' ≤ 1 := by rw [ho']; exact (open_down ho).2
    have hqs : ∀ x ∈ ql, x.1.length ≤ 65536 := fun x hx => open_short ho _ (by rw [← hqm]; exact List.mem_map.2 ⟨x, hx, rfl⟩)
    have hql : ql.length ≤ 100000 := by omega
    clear hH' hFLp ho' hp12 hp7 k46 k7 K27 K28 K210 K712 k8 k9 k10 k11 k12 hd7 hd8 hd10 g0 g1 K6 hp6 K4 hp3 kl k5 k6 kl' hd3 hL hF' hqm hoL0 hlen3 hR hG kl7 zkl zk5 zk6 hzs z712 kl12 hR12 HLS HLR
    obtain ⟨hB0, hHR, hHp, hHlt⟩ := HBK.out
    have hzs := HZ.out
    have hRl : ∀ k, R k → k < w.heap.size := hB0.1
    have hz12 : wy.heap.size ≤ w12.heap.size := K212.size
    have kRw : Keeps (fun k => ¬ R k) w w12 := (K3.old _).trans' (K212.mono fun k _ hk e => hk (by rw [e]; exact hHR p hHp))
    have hBt := hB0.keep kRw
    have hd12 := K212.heap hd2 hdp
    have q0 : w12.cell? ⟨gd, 0, none⟩ = some (.slice Aa xs.length ca) := cell_of_heap hd12
    obtain ⟨hrx, hry, hA, hB, hAB, hAl, hBl⟩ := HRX.out
    have KW := (kW2y.old (fun k => k ≠ p)).trans' K212
    have hA12 := hA.own_.keep (KW.mono fun k _ hk e => by have h' : w.heap.size ≤ k := hA.foot k hk; omega)
    have hB12 := hB.own_.keep (KW.mono fun k _ hk e => by have h' : w.heap.size ≤ k := hB.foot k hk; omega)
    have hrx := hrx.keep K212 hxp
    have hry := hry.keep K212 hyp
    obtain ⟨T, hTd⟩ : ∃ T : Nat → Prop, T = fun k => R k ∨ k = gd ∨ (wy.heap.size ≤ k ∧ k < w12.heap.size) := ⟨_, rfl⟩
    have hTv : ∀ k, T k → (Value.slice Aa xs.length ca).ownBlock ≠ some k ∧ (Value.slice Ba ys.length cb).ownBlock ≠ some k ∧ gx ≠ k ∧ gy ≠ k := fun k hk => by
      rw [hTd] at hk
      rcases hk with hk | hk | hk
      · have h1 := hRl k hk
        exact ⟨fun e => by have h' : w.heap.size ≤ k := hA.foot k e; omega, fun e => by have h' : w.heap.size ≤ k := hB.foot k e; omega, by omega, by omega⟩
      · exact ⟨fun e => by have := hAl k e; omega, fun e => by have := hBl k e; omega, by omega, by omega⟩
      · exact ⟨fun e => by have := hAl k e; omega, fun e => by have := hBl k e; omega, by omega, by omega⟩
    have hT1 : ∀ k, T k → R k ∨ (w.heap.size ≤ k ∧ k < w12.heap.size) := fun k hk => by
      rw [hTd] at hk
      rcases hk with hk | hk | hk
      · exact .inl hk
      · right; omega
      · right; omega
    have hTR : ∀ k, R k → T k := fun k hk => by rw [hTd]; exact .inl hk
    have hTg : T gd := by rw [hTd]; exact .inr (.inl rfl)
    have hTn : ∀ k, wy.heap.size ≤ k ∧ k < w12.heap.size → T k := fun k hk => by rw [hTd]; exact .inr (.inr hk)
    have HHH := hid (And.intro hPn (And.intro hoL (And.intro hTv (And.intro hT1 (And.intro hTR (And.intro hTn (And.intro hFL (And.intro hHF (And.intro hHn (And.intro hwsn (And.intro hqs (And.intro hql (And.intro kRw hRl)))))))))))))
    have HKK := hid (And.intro K3 K212)
    have HRR := hid (And.intro hrx (And.intro hry (And.intro hAB (And.intro hAl hBl))))
    have hk1 := keep_bk hBt (by omega) (by omega) (KeepR.ofOwn hA12 fun k hk => .inr ⟨hA.foot k hk, by have := hAl k hk; omega⟩) (by omega)
    have HTD := hid hTg
    clear hPn hoL hTv hT1 hTR hTn hFL hHF hHn hwsn hqs kRw hRl hTd hrx hry hBt hA12 hA hTg hHR hHp hHlt hB0 KW
    go_wp2_with fail
    refine hk1.mono ?_
    rintro e v1 ⟨rfl, hB1, kk1⟩
    clear hk1 q0
    obtain ⟨hPn, hoL, hTv, hT1, hTR, hTn, hFL, hHF, hHn, hwsn, hqs, hql, kRw, hRl⟩ := HHH.out
    obtain ⟨hrx, hry, hAB, hAl, hBl⟩ := HRR.out
    have kT1 : Keeps T w12 v1 := kk1.mono fun k _ hk => ⟨hT1 k hk, (hTv k hk).1⟩
    have hdv1 := kT1.heap hd12 HTD.out
    have q1 : v1.cell? ⟨gd, 1, none⟩ = some (.slice Ba ys.length cb) := cell_of_heap hdv1
    have hB13 := hB12.keep (kk1.mono fun k _ hk => ⟨.inr ⟨hB.foot k hk, by have := hBl k hk; omega⟩, fun e => hAB k e hk⟩)
    have hrx1 := hrx.keep kk1 ⟨.inr ⟨by omega, by omega⟩, fun e => by have := hAl _ e; omega⟩
    have hry1 := hry.keep kk1 ⟨.inr ⟨by omega, by omega⟩, fun e => by have := hAl _ e; omega⟩
    have hk2 := keep_bk hB1 (by omega) (by omega) (KeepR.ofOwn hB13 fun k hk => ⟨.inr ⟨hB.foot k hk, by have := hBl k hk; omega⟩, fun e => hAB k e hk⟩) (by omega)
    have HRR1 := hid (And.intro hrx1 (And.intro hry1 kT1))
    clear hPn hoL hTv hT1 hTR hTn hFL hHF hHn hwsn hqs kRw hRl hrx hry hAB hAl hBl kk1 hB1 hB12 hB13 hB hrx1 hry1 kT1
    go_wp2_with fail
    refine hk2.mono ?_
    rintro e v2 ⟨rfl, hB2, kk2⟩
    clear hk2 q1
    obtain ⟨hPn, hoL, hTv, hT1, hTR, hTn, hFL, hHF, hHn, hwsn, hqs, hql, kRw, hRl⟩ := HHH.out
    obtain ⟨_, _, hAB, hAl, hBl⟩ := HRR.out
    obtain ⟨hrx1, hry1, kT1⟩ := HRR1.out
    have kT2 : Keeps T v1 v2 := kk2.mono fun k _ hk => ⟨⟨hT1 k hk, (hTv k hk).1⟩, (hTv k hk).2.1⟩
    have hdv2 := kT2.heap hdv1 HTD.out
    have q2 : v2.cell? ⟨gd, 0, none⟩ = some (.slice Aa xs.length ca) := cell_of_heap hdv2
    have hgx3 : ((R gx ∨ (w.heap.size ≤ gx ∧ gx < w12.heap.size)) ∧ (Value.slice Aa xs.length ca).ownBlock ≠ some gx) ∧ (Value.slice Ba ys.length cb).ownBlock ≠ some gx := ⟨⟨.inr ⟨by omega, by omega⟩, fun e => by have := hAl _ e; omega⟩, fun e => by have := hBl _ e; omega⟩
    have hgy3 : ((R gy ∨ (w.heap.size ≤ gy ∧ gy < w12.heap.size)) ∧ (Value.slice Aa xs.length ca).ownBlock ≠ some gy) ∧ (Value.slice Ba ys.length cb).ownBlock ≠ some gy := ⟨⟨.inr ⟨by omega, by omega⟩, fun e => by have := hAl _ e; omega⟩, fun e => by have := hBl _ e; omega⟩
    have hrx2 := hrx1.keep kk2 hgx3
    have hry2 := hry1.keep kk2 hgy3
    have hnx := HNX.out.1
    have hny := HNX.out.2
    have hk3 := keep_bk hB2 (by omega) (by omega) (lv := .slice (some ⟨gx, 0, none⟩) xs.length nx) (n := xs.length) (.inr ⟨gx, nx, rfl, by simpa using hrx2.take 0, by omega, by unfold maxLen; omega, hgx3⟩) (by omega)
    have HRR2 := hid (And.intro hry2 (And.intro (kT1.trans' kT2) hgy3))
    clear hPn hoL hTv hT1 hTR hTn hFL hHF hHn hwsn hqs kRw hRl hAB hAl hBl kk2 hB2 hrx1 hry1 kT1 kT2 hrx2 hry2 hgx3 hgy3 hnx hny
    go_wp2_with fail
    refine hk3.mono ?_
    rintro e v3 ⟨rfl, hB3, kk3⟩
    clear hk3 q2
    obtain ⟨hPn, hoL, hTv, hT1, hTR, hTn, hFL, hHF, hHn, hwsn, hqs, hql, kRw, hRl⟩ := HHH.out
    obtain ⟨hry2, kT2, hgy3⟩ := HRR2.out
    have kT3 : Keeps T v2 v3 := kk3.mono fun k _ hk => ⟨⟨⟨hT1 k hk, (hTv k hk).1⟩, (hTv k hk).2.1⟩, fun e => by injection e with e; exact (hTv k hk).2.2.1 e⟩
    have hdv3 := kT3.heap hdv2 HTD.out
    have q3 : v3.cell? ⟨gd, 1, none⟩ = some (.slice Ba ys.length cb) := cell_of_heap hdv3
    have hgy4 : (((R gy ∨ (w.heap.size ≤ gy ∧ gy < w12.heap.size)) ∧ (Value.slice Aa xs.length ca).ownBlock ≠ some gy) ∧ (Value.slice Ba ys.length cb).ownBlock ≠ some gy) ∧ (Value.slice (some ⟨gx, 0, none⟩) xs.length nx).ownBlock ≠ some gy := ⟨hgy3, fun e => by injection e with e; have e' : gx = gy := e; omega⟩
    have hry3 := hry2.keep kk3 hgy4
    have hnx := HNX.out.1
    have hny := HNX.out.2
    have hk4 := keep_bk hB3 (by omega) (by omega) (lv := .slice (some ⟨gy, 0, none⟩) ys.length ny) (n := ys.length) (.inr ⟨gy, ny, rfl, by simpa using hry3.take 0, by omega, by unfold maxLen; omega, hgy4⟩) (by omega)
    have HRR3 := hid (kT2.trans' kT3)
    clear hPn hoL hTv hT1 hTR hTn hFL hHF hHn hwsn hqs kRw hRl kk3 hB3 kT2 kT3 hry2 hry3 hgy3 hgy4 hnx hny
    go_wp2_with fail
    refine hk4.mono ?_
    rintro e v4 ⟨rfl, hB4, kk4⟩
    clear hk4 q3
    obtain ⟨hPn, hoL, hTv, hT1, hTR, hTn, hFL, hHF, hHn, hwsn, hqs, hql, kRw, hRl⟩ := HHH.out
    have kT4 : Keeps T v3 v4 := kk4.mono fun k _ hk => ⟨⟨⟨⟨hT1 k hk, (hTv k hk).1⟩, (hTv k hk).2.1⟩, fun e => by injection e with e; exact (hTv k hk).2.2.1 e⟩, fun e => by injection e with e; exact (hTv k hk).2.2.2 e⟩
    have hT5 : ∀ k, T k → ((((R k ∨ (w.heap.size ≤ k ∧ k < w12.heap.size)) ∧ (Value.slice Aa xs.length ca).ownBlock ≠ some k) ∧ (Value.slice Ba ys.length cb).ownBlock ≠ some k) ∧ (Value.slice (some ⟨gx, 0, none⟩) xs.length nx).ownBlock ≠ some k) ∧ (Value.slice (some ⟨gy, 0, none⟩) ys.length ny).ownBlock ≠ some k := fun k hk => ⟨⟨⟨⟨hT1 k hk, (hTv k hk).1⟩, (hTv k hk).2.1⟩, fun e => by injection e with e; exact (hTv k hk).2.2.1 e⟩, fun e => by injection e with e; exact (hTv k hk).2.2.2 e⟩
    have kT := HRR3.out.trans' kT4
    have hoL4 := hoL.keep (kT.mono fun k _ hk => hTn k (hFL k hk))
    have hsum := keepSum_le' (q := ql) (B := 65536) hqs
    have hprod : ql.length * (65536 + 400) ≤ 100000 * (65536 + 400) := Nat.mul_le_mul_right _ hql
    have hk5 := keepAll_bk hB4 (by omega) (by omega) hoL4 (fun k hk => hT5 k (hTn k (hFL k hk))) (by omega) (fun x hx => by have := hqs x hx; omega) (by omega)
    have HL := hid (And.intro kT (And.intro hT5 (And.intro hsum hprod)))
    clear hPn hoL hTv hT1 hTR hTn hFL hHF hHn hwsn hqs kRw hRl kk4 hB4 kT kT4 hT5 hoL4 hsum hprod
    go_wp2_with fail
    refine hk5.mono ?_
    rintro e v5 ⟨rfl, hB5, kk5⟩
    clear hk5
    obtain ⟨hPn, hoL, hTv, hT1, hTR, hTn, hFL, hHF, hHn, hwsn, hqs, hql, kRw, hRl⟩ := HHH.out
    obtain ⟨kT, hT5, hsum, hprod⟩ := HL.out
    obtain ⟨K3, K212⟩ := HKK.out
    have hTH : ∀ k, H' k → T k := fun k hk => by
      rcases hHn k hk with h' | h'
      · rw [h']; exact hTR p (HBK.out.2.1 p HBK.out.2.2.1)
      · exact hTn k h'
    have hTF : ∀ k, R k → ¬ FLp k := fun k hk hf => by have := hFL k hf; have := hRl k hk; omega
    have HR := hid (show PostReo R pb N Z p w (.returned (.bool true)) v5 from by
      refine ⟨rfl, H', o', (hPn.keep (kT.mono fun k _ hk => hTH k hk)).keep (kk5.mono fun k _ hk => ⟨hT5 k (hTH k hk), hHF k hk⟩), hwsn, fun k hk => ?_, (hB5.less fun k hk => ?_).more (by omega) (by omega), ?_⟩
      · rcases hHn k hk with h' | h'
        · exact .inl h'
        · right; omega
      · rcases hk with hk | hk
        · exact ⟨hT5 k (hTR k hk), hTF k hk⟩
        · exact ⟨hT5 k (hTH k hk), hHF k hk⟩
      · exact ((K3.old _).trans' (K212.mono fun k _ hk => hk.2)).trans' ((kT.mono fun k _ hk => hTR k hk.1).trans' (kk5.mono fun k _ hk => ⟨hT5 k (hTR k hk.1), hTF k hk.1⟩)))
    clear hPn hoL hTv hT1 hTR hTn hFL hHF hHn hwsn hqs kRw hRl kT hT5 hsum hprod K3 K212 hTH hTF hB5 kk5
    go_wp2
    go_ret
    exact HR.out
end Go.Proofs.YtdpaaoeipconcaaDoor
