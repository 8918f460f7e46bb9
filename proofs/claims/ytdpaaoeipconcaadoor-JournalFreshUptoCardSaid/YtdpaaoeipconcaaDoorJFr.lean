/- weftlaw12.JournalFresh. Conditions: the disk and the script can be read and are of small bulk; the table lies. -/
import Derived.Test.YtdpaaoeipconcaaDoorJFr13
import Derived.Test.YtdpaaoeipconcaaDoorJFirst
namespace Go.Proofs.YtdpaaoeipconcaaDoor
open Go.RowKit

/-- A pair from two journals, in a block behind them. -/
theorem pair_new2 {F G : Nat → Prop} {w : World} {p gl gm : Nat} {j : Jn} {vA vB vP vA' vB' vP' : Value} {q q' : List (Wr × Value)} (hp : w.heap[p]? = some (.cells #[.pointer (some ⟨gl, 0, none⟩), .pointer (some ⟨gm, 0, none⟩)] 29 (0, 0))) (hL : LNet F w gl vA vB vP q j) (hR : RNet G w gm vA' vB' vP' q' j)
    (hF : ∀ k, F k → k ≠ p ∧ ¬ G k) (hG : ∀ k, G k → k ≠ p) : PairAt (fun k => k = p ∨ F k ∨ G k) w p (some j) := by
  refine ⟨.inl rfl, fun k hk => ?_, F, G, gl, gm, vA, vB, vP, q, vA', vB', vP', q', hp, hL, hR, fun k h1 h2 => (hF k h1).2 h2, fun k h => ⟨.inr (.inl h), (hF k h).1⟩, fun k h => ⟨.inr (.inr h), hG k h⟩⟩
  rcases hk with rfl | hk | hk
  · exact lt_of_heap hp
  · exact hL.lt k hk
  · exact hR.lt k hk

set_option maxRecDepth 10000 in
set_option maxHeartbeats 16000000 in
theorem fresh_any (w : World) (S : Nat → Prop) (A B : Option Addr) (n m c d : Nat) (xs ys : List UInt8) (ha : Bts S w A xs) (hb : Bts S w B ys) (hn : n = xs.length) (hm : m = ys.length) (hc : n ≤ c) (hd : m ≤ d)
    (C : Option Addr) (cc : Nat) (l : List OpJ) (hO : Ops S w C l) (hS : ∀ k, S k → k < w.heap.size) (hT : Tab w) (hsl : SmallOps l) (hln : l.length ≤ 209716) (hlx : xs.length ≤ 1048576) (hly : ys.length ≤ 1048576) :
    Calls Tryd.prog 17 #[.agg #[.slice A n c, .slice B m d], .slice C l.length cc] w fun e w' => e = .returned (.bool true) ∧ Old w w' := by
  obtain ⟨gd, hgd⟩ : ∃ g, g = w.heap.size := ⟨_, rfl⟩
  obtain ⟨W0, hW0⟩ : ∃ W, W = w.alloc (.cells #[.slice A n c, .slice B m d] 24) := ⟨_, rfl⟩
  have k0 : Old w W0 := by rw [hW0]; exact (Keeps.refl _ _).alloc _
  have hd0 : W0.heap[gd]? = some (.cells #[.slice A n c, .slice B m d] 24 (0, 0)) := by rw [hW0, hgd]; exact heap_alloc_new _ _
  have z0 : W0.heap.size = gd + 1 := by rw [hW0, hgd]; simp
  have hfi := first_any W0 (hT.keep (k0.old (fun _ => True)) trivial)
  obtain ⟨nx, hnx⟩ : ∃ nx, nx = n + 64 := ⟨_, rfl⟩
  obtain ⟨ny, hny⟩ : ∃ ny, ny = m + 64 := ⟨_, rfl⟩
  have ix : (n : Int) ≤ (nx : Int) := by omega
  have iy : (m : Int) ≤ (ny : Int) := by omega
  have hrox := fun (W : World) S A c (hb : Bts S W A xs) => roomy_any W S A c xs hb (by omega)
  have hroy := fun (W : World) S A c (hb : Bts S W A ys) => roomy_any W S A c ys hb (by omega)
  unfold PostRoom at hrox hroy
  rw [← hn, ← hnx] at hrox
  rw [← hm, ← hny] at hroy
  have hsx := fun (W : World) S T A B c d (h1 : Bts S W A (roomyB xs)) (h2 : Bts T W B (roomyB xs)) => same_any W S T A B c d _ _ h1 h2
  have hsy := fun (W : World) S T A B c d (h1 : Bts S W A (roomyB ys)) (h2 : Bts T W B (roomyB ys)) => same_any W S T A B c d _ _ h1 h2
  simp only [roomyB_length, decide_true] at hsx hsy
  rw [← hn, ← hnx] at hsx
  rw [← hm, ← hny] at hsy
  have hl1 : n ≤ 1048576 := by omega
  have hl2 : m ≤ 1048576 := by omega
  have HNX := hid (And.intro hnx (And.intro hny (And.intro hn hm)))
  have HRO := hid (And.intro hrox hroy)
  have HSS := hid (And.intro hsx hsy)
  clear hnx hny hrox hroy hsx hsy hn hm
  go_enter Tryd.func17, Tryd.ntmps17
  go_upto_region 1 with fail
  rw [← hW0, ← hgd]
  have HGD := hid (And.intro hgd z0)
  clear hW0 hgd z0
  go_wp2_with fail
  refine hfi.mono ?_
  rintro e w1 ⟨rfl, k1⟩
  clear hfi
  have K1 := k0.trans' k1
  have hd1 := k1.heap hd0 trivial
  have HKA := hid (show ∀ W, Old w W → Bts S W A xs ∧ Bts S W B ys ∧ Tab W from fun W hW => ⟨ha.keep (hW.old S), hb.keep (hW.old S), hT.keep (hW.old (fun _ => True)) trivial⟩)
  go_upto_region 3 with fail
  refine wp_region_tree (fun w' => w'.heap[gd]? = some (.cells #[.slice A n c, .slice B m d] 24 (0, 0))) 8
    (.take 0 (.take 1 (.take 3 (.take 4 (.one 2 (.one 5 (.take 6 (.take 7 .tail)))))))) (by kernel_rfl) (by kernel_rfl) hd1 ?_
  iterate 4 (refine pt_take (v := ?_) (by rfl) (by first | rfl | kernel_rfl) (fun w' hS => ?_) ?_; rotate_left 1; (have t0 : w'.cell? ⟨gd, 0, none⟩ = some (.slice A n c) := cell_of_heap hS; have t1 : w'.cell? ⟨gd, 1, none⟩ = some (.slice B m d) := cell_of_heap hS; clear hS; go_simp <;> (try with_reducible rfl)); (simp only [Act.put, List.setIfInBounds_toArray, List.set_cons_zero, List.set_cons_succ]))
  refine pt_one (by rfl) (loudly_of (by first | rfl | kernel_rfl) (fun K hK => ?_))
  have hca := HRO.out.1 w1.drew S A c ((HKA.out w1 K1).1.keep ((Keeps.refl _ w1).drew))
  go_wp2_with fail
  refine hca.mono ?_
  rintro e wx ⟨rfl, hrx, kx'⟩
  clear hca
  have kx : Old w1 wx := kx'.ofDrew
  obtain ⟨gx, hgx⟩ : ∃ gx, gx = w1.heap.size := ⟨_, rfl⟩
  have hrx' : Row1 wx 5 gx nx ((roomyB xs).map bv) := by rw [hgx]; exact hrx
  have hd2 := kx.heap hd1 trivial
  refine hK _ _ hd2 ?_
  clear hK K hrx
  try simp only [show w1.drew.heap.size = w1.heap.size from rfl]
  rw [← hgx]
  have HGX := hid hgx
  clear hgx
  refine pt_one (by rfl) (loudly_of (by first | rfl | kernel_rfl) (fun K hK => ?_))
  have hca := HRO.out.2 wx S B d (HKA.out wx (K1.trans' kx)).2.1
  go_wp2_with fail
  refine hca.mono ?_
  rintro e wy ⟨rfl, hry, ky⟩
  clear hca
  obtain ⟨gy, hgy⟩ : ∃ gy, gy = wx.heap.size := ⟨_, rfl⟩
  have hry' : Row1 wy 5 gy ny ((roomyB ys).map bv) := by rw [hgy]; exact hry
  have hd3 := ky.heap hd2 trivial
  have zy : gy < wy.heap.size := hry'.lt
  have hrx2 := hrx'.keep ky trivial
  refine hK _ _ hd3 ?_
  clear hK K hry
  rw [← hgy]
  have HGY := hid hgy
  clear hgy
  iterate 2 (refine pt_take (v := ?_) (by rfl) (by first | rfl | kernel_rfl) (fun w' hS => ?_) ?_; rotate_left 1; (have t0 : w'.cell? ⟨gd, 0, none⟩ = some (.slice A n c) := cell_of_heap hS; have t1 : w'.cell? ⟨gd, 1, none⟩ = some (.slice B m d) := cell_of_heap hS; clear hS; go_simp <;> (try with_reducible rfl)); (simp only [Act.put, List.setIfInBounds_toArray, List.set_cons_zero, List.set_cons_succ]))
  refine pt_tail (by rfl) ?_
  go_wp2
  refine NoPanic.normal ?_
  have K3 := (K1.trans' kx).trans' ky
  have HZ := hid (show w.heap.size = gd ∧ gd < gx ∧ gx < gy ∧ gy < wy.heap.size from by
    have h1 := HGD.out
    have h2 := HGX.out
    have h3 := HGY.out
    have h4 := hrx'.lt
    have h5 := k1.size
    exact ⟨h1.1.symm, by omega, by omega, zy⟩)
  have hnl := HNX.out.2.2
  have hbx0 : Bts (fun _ => True) wy (some ⟨gx, 0, none⟩) xs := by
    have h := hrx2.bts (n := xs.length) (by rw [roomyB_length]; omega) (by omega)
    rw [roomyB_take] at h
    exact h.mono' fun _ _ => trivial
  have hby0 : Bts (fun _ => True) wy (some ⟨gy, 0, none⟩) ys := by
    have h := hry'.bts (n := ys.length) (by rw [roomyB_length]; omega) (by omega)
    rw [roomyB_take] at h
    exact h.mono' fun _ _ => trivial
  have hlo := lopen_any wy.drew _ _ _ n m nx ny xs ys (hbx0.keep ((Keeps.refl _ wy).drew)) (hby0.keep ((Keeps.refl _ wy).drew)) hnl.1 hnl.2 (by have := HNX.out; omega) (by have := HNX.out; omega) (HKA.out _ (K3.drew)).2.2
  have HRX := hid (And.intro hrx2 hry')
  clear hrx' hrx2 hry' hd0 hd1 hd2 hbx0 hby0 kx ky kx' hnl zy
  cases ho : openJ (xs, ys) with
  | none =>
    rw [ho] at hlo
    go_upto_region 4 with fail
    refine wp_region_tree (fun w' => w'.heap[gd]? = some (.cells #[.slice A n c, .slice B m d] 24 (0, 0))) 19
      (.take 0 (.take 1 (.take 2 (.take 3 (.take 4 (.take 5 (.take 6 (.take 7 (.take 8 (.take 9 (.take 10 (.one 11 (.take 12 (.take 13 (.take 14 (.take 15 (.take 16 (.take 17 (.take 18 .tail))))))))))))))))))) (by kernel_rfl) (by kernel_rfl) hd3 ?_
    iterate 11 (refine pt_take (v := ?_) (by rfl) (by first | rfl | kernel_rfl) (fun w' hS => ?_) ?_; rotate_left 1; (have t0 : w'.cell? ⟨gd, 0, none⟩ = some (.slice A n c) := cell_of_heap hS; have t1 : w'.cell? ⟨gd, 1, none⟩ = some (.slice B m d) := cell_of_heap hS; clear hS; go_simp <;> (try with_reducible rfl)); (simp only [Act.put, List.setIfInBounds_toArray, List.set_cons_zero, List.set_cons_succ]))
    refine pt_one (by rfl) (loudly_of (by first | rfl | kernel_rfl) (fun K hK => ?_))
    go_wp2_with fail
    refine hlo.mono ?_
    rintro e wl ⟨rfl, kl'⟩
    have kl : Old wy wl := kl'.ofDrew
    have K4 := K3.trans' kl
    have hd4 := kl.heap hd3 trivial
    refine hK _ _ hd4 ?_
    clear hK K hlo
    iterate 7 (refine pt_take (v := ?_) (by rfl) (by first | rfl | kernel_rfl) (fun w' hS => ?_) ?_; rotate_left 1; (have t0 : w'.cell? ⟨gd, 0, none⟩ = some (.slice A n c) := cell_of_heap hS; have t1 : w'.cell? ⟨gd, 1, none⟩ = some (.slice B m d) := cell_of_heap hS; clear hS; go_simp <;> (try with_reducible rfl)); (simp only [Act.put, List.setIfInBounds_toArray, List.set_cons_zero, List.set_cons_succ]))
    refine pt_tail (by rfl) ?_
    go_wp2
    refine NoPanic.normal ?_
    have q0 : wl.cell? ⟨gd, 0, none⟩ = some (.slice A n c) := cell_of_heap hd4
    have q1 : wl.cell? ⟨gd, 1, none⟩ = some (.slice B m d) := cell_of_heap hd4
    have hnl := HNX.out.2.2
    have hro := ropen_any wl S A B n m c d xs ys (HKA.out wl K4).1 (HKA.out wl K4).2.1 hnl.1 hnl.2 hc hd
    rw [ho] at hro
    clear hnl
    go_wp2_with fail
    refine hro.mono ?_
    rintro e w6 ⟨rfl, k6⟩
    clear hro
    have k46 := kl.trans' k6
    have hls : Calls Tryd.prog 33 #[.slice none 0 0, .slice none 0 0] w6 (PostSame w6 true) := lists_any w6 (fun _ => False) (fun _ => False) none none 0 0 [] [] (Rcs.nil _ _ _) (Rcs.nil _ _ _)
    go_upto_region 6 with fail
    go_wp2_with fail
    refine hls.mono ?_
    rintro e w8 ⟨rfl, nd8, hw8⟩
    have k8 : Old w6 w8 := by rw [← hw8]; exact (Keeps.refl _ _).drewN _
    clear hw8 hls q0 q1
    have K28 := k46.trans' k8
    have hd8 := K28.heap hd3 trivial
    have g0 : w8.cell? ⟨gd, 0, none⟩ = some (.slice A n c) := cell_of_heap hd8
    have hca := HRO.out.1 w8 S A c (HKA.out w8 (K3.trans' K28)).1
    go_wp2_with fail
    refine hca.mono ?_
    rintro e w9 ⟨rfl, hr9, k9⟩
    clear hca
    have hca := HSS.out.1 w9 _ _ _ _ nx nx ((HRX.out.1.keep (K28.trans' k9) trivial).btsT) hr9.btsT
    go_wp2_with fail
    refine hca.mono ?_
    rintro e w10 ⟨rfl, nd10, hw10⟩
    have k10 : Old w9 w10 := by rw [← hw10]; exact (Keeps.refl _ _).drewN _
    clear hw10 hca hr9
    have K210 := (K28.trans' k9).trans' k10
    have hd10 := K210.heap hd3 trivial
    have g1 : w10.cell? ⟨gd, 1, none⟩ = some (.slice B m d) := cell_of_heap hd10
    have hca := HRO.out.2 w10 S B d (HKA.out w10 (K3.trans' K210)).2.1
    go_wp2_with fail
    refine hca.mono ?_
    rintro e w11 ⟨rfl, hr11, k11⟩
    clear hca
    have hca := HSS.out.2 w11 _ _ _ _ ny ny ((HRX.out.2.keep (K210.trans' k11) trivial).btsT) hr11.btsT
    go_wp2_with fail
    refine hca.mono ?_
    rintro e w12 ⟨rfl, nd12, hw12⟩
    have k12 : Old w11 w12 := by rw [← hw12]; exact (Keeps.refl _ _).drewN _
    clear hw12 hca hr11
    have K612 : Old w6 w12 := (((k8.trans' k9).trans' k10).trans' k11).trans' k12
    have K212 : Old wy w12 := k46.trans' K612
    obtain ⟨p, hp⟩ : ∃ p, p = w12.heap.size := ⟨_, rfl⟩
    obtain ⟨FLp, hFLp⟩ : ∃ FLp : Nat → Prop, FLp = fun _ => False := ⟨_, rfl⟩
    obtain ⟨o', ho'⟩ : ∃ o' : Option Jn, o' = none := ⟨_, rfl⟩
    obtain ⟨ql, hqle⟩ : ∃ ql : List (List UInt8 × Value), ql = [] := ⟨_, rfl⟩
    obtain ⟨H', hH'⟩ : ∃ H' : Nat → Prop, H' = fun k => k = p := ⟨_, rfl⟩
    have hPq : ∀ W, Old w12 W → W.heap[p]? = some (.cells #[.pointer none, .pointer none] 29 (0, 0)) → PairAt H' W p o' := fun W _ hp12 => by rw [hH', ho']; exact ⟨rfl, fun k hk => by rw [hk]; exact lt_of_heap hp12, hp12⟩
    have hoL12 : OwnR FLp w12 (.slice none 0 0) ql := by rw [hqle]; exact OwnR.nil _ _
    have hFL : ∀ k, FLp k → wy.heap.size ≤ k ∧ k < w12.heap.size := fun k hk => by rw [hFLp] at hk; exact hk.elim
    have hHF : ∀ k, H' k → ¬ FLp k := fun k _ hk => by rw [hFLp] at hk; exact hk
    have hHn : ∀ k, H' k → k = p ∨ (wy.heap.size ≤ k ∧ k < w12.heap.size) := fun k hk => by rw [hH'] at hk; exact .inl hk
    have hwsn : wsN o' ≤ 1 := by rw [ho']; exact Nat.zero_le _
    have hqs : ∀ x ∈ ql, x.1.length ≤ 65536 := by rw [hqle]; simp
    have hql : ql.length ≤ 100000 := by rw [hqle]; simp
    clear hH' hFLp ho' hqle k46 K28 K210 k8 k9 k10 k11 k12 hd8 hd10 g0 g1 K4 hd4 kl k6 kl'
    obtain ⟨W13, hW13⟩ : ∃ W, W = w12.alloc (.cells #[.pointer none, .pointer none] 29) := ⟨_, rfl⟩
    have k13 : Old w12 W13 := by rw [hW13]; exact (Keeps.refl _ _).alloc _
    have hp13 : W13.heap[p]? = some (.cells #[.pointer none, .pointer none] 29 (0, 0)) := by rw [hW13, hp]; exact heap_alloc_new _ _
    have z13 : W13.heap.size = p + 1 := by rw [hW13, hp]; simp
    go_upto_region 9 with fail
    rw [← hW13, ← hp]
    obtain ⟨pb, hpb⟩ : ∃ p, p = W13.heap.size := ⟨_, rfl⟩
    obtain ⟨W14, hW14⟩ : ∃ W, W = W13.alloc (.cells #[.slice none 0 0, .slice none 0 0, .int .i64 0, .slice none 0 0] 83) := ⟨_, rfl⟩
    have k14 : Old W13 W14 := by rw [hW14]; exact (Keeps.refl _ _).alloc _
    have hBk : Bk (fun i => i < W13.heap.size) pb 0 0 W14 := by rw [hW14, hpb]; exact Bk.new _ fun _ h => h
    have HPP := hid (And.intro hp (And.intro z13 hpb))
    clear hW13 hp z13
    go_upto_region 10 with fail
    rw [← hW14, ← hpb]
    clear hW14 hpb
    have K14 : Old wy W14 := (K212.trans' k13).trans' k14
    have hzs := HZ.out
    have hd14 := K14.heap hd3 trivial
    have q0 : W14.cell? ⟨gd, 0, none⟩ = some (.slice A n c) := cell_of_heap hd14
    have hnn := HNX.out
    have zK := K212.size
    have hlt13 : wy.heap.size ≤ p ∧ p < W13.heap.size := by have := HPP.out; omega
    have hk1 := keep_bk hBk (by omega) (by omega) (lv := .slice (some ⟨gx, 0, none⟩) n nx) (n := n) (.inr ⟨gx, nx, rfl, by simpa using (HRX.out.1.keep K14 trivial).take 0, by omega, by unfold maxLen; omega, by show gx < W13.heap.size; omega⟩) (by omega)
    have hPn := hPq W14 (k13.trans' k14) (by exact k14.heap hp13 trivial)
    have hoL := hoL12.keep ((k13.trans' k14).old FLp)
    have HQ := hid (And.intro hPn (And.intro hoL (And.intro hFL (And.intro hHF (And.intro hHn (And.intro hwsn (And.intro hqs (And.intro hql (And.intro hlt13 K14)))))))))
    clear hPn hoL hFL hHF hHn hwsn hqs hlt13 hBk hp13 k13 k14 K14 hoL12 hPq hnn hzs zK K612
    go_wp2_with fail
    refine hk1.mono ?_
    rintro e v1 ⟨rfl, hB1, kk1⟩
    clear hk1 q0
    obtain ⟨hPn, hoL, hFL, hHF, hHn, hwsn, hqs, hql, hlt13, K14⟩ := HQ.out
    have hzs := HZ.out
    have hnn := HNX.out
    have zK14 := K14.size
    have hgd1 := kk1.heap hd14 ⟨by show gd < W13.heap.size; omega, fun e => by injection e with e; have e' : gx = gd := e; omega⟩
    have q1 : v1.cell? ⟨gd, 1, none⟩ = some (.slice B m d) := cell_of_heap hgd1
    have hry1 := (HRX.out.2.keep K14 trivial).keep kk1 ⟨by show gy < W13.heap.size; omega, fun e => by injection e with e; have e' : gx = gy := e; omega⟩
    have hk2 := keep_bk hB1 (by omega) (by omega) (lv := .slice (some ⟨gy, 0, none⟩) m ny) (n := m) (.inr ⟨gy, ny, rfl, by simpa using hry1.take 0, by omega, by unfold maxLen; omega, by show gy < W13.heap.size; omega, fun e => by injection e with e; have e' : gx = gy := e; omega⟩) (by omega)
    have HKK := hid kk1
    clear hPn hoL hFL hHF hHn hwsn hqs hlt13 K14 hzs hnn zK14 hry1 hB1 kk1
    go_wp2_with fail
    refine hk2.mono ?_
    rintro e v2 ⟨rfl, hB2, kk2⟩
    clear hk2 q1
    obtain ⟨hPn, hoL, hFL, hHF, hHn, hwsn, hqs, hql, hlt13, K14⟩ := HQ.out
    have hzs := HZ.out
    have hR2 : ∀ i, i < W13.heap.size → gx ≠ i → gy ≠ i → ((i < W13.heap.size) ∧ (Value.slice (some ⟨gx, 0, none⟩) n nx).ownBlock ≠ some i) ∧ (Value.slice (some ⟨gy, 0, none⟩) m ny).ownBlock ≠ some i := fun i h1 h2 h3 => ⟨⟨h1, fun e => by injection e with e; exact h2 e⟩, fun e => by injection e with e; exact h3 e⟩
    have kv : Keeps (fun i => i < W13.heap.size ∧ gx ≠ i ∧ gy ≠ i) W14 v2 := (HKK.out.mono fun i _ hi => (hR2 i hi.1 hi.2.1 hi.2.2).1).trans' (kk2.mono fun i _ hi => hR2 i hi.1 hi.2.1 hi.2.2)
    have hFs : ∀ i, FLp i → i < W13.heap.size ∧ gx ≠ i ∧ gy ≠ i := fun i hi => by have := hFL i hi; have := HPP.out; exact ⟨by omega, by omega, by omega⟩
    have hoL2 := hoL.keep (kv.mono fun i _ hi => hFs i hi)
    have hsum := keepSum_le' (q := ql) (B := 65536) hqs
    have hprod : ql.length * (65536 + 400) ≤ 6593600000 := Nat.le_trans (Nat.mul_le_mul_right _ hql) (by decide)
    have hk3 := keepAll_bk hB2 (by omega) (by omega) hoL2 (fun i hi => hR2 i (hFs i hi).1 (hFs i hi).2.1 (hFs i hi).2.2) (by omega) (fun y hy => by have := hqs y hy; omega) (by omega)
    have hgd2 := kv.heap hd14 ⟨by show gd < W13.heap.size; omega, by omega, by omega⟩
    have HV := hid (And.intro kv (And.intro hR2 (And.intro hFs (And.intro hsum (And.intro hprod hgd2)))))
    clear hPn hoL hFL hHF hHn hwsn hqs hlt13 K14 hzs hR2 kv hFs hoL2 hsum hprod hB2 kk2 hgd1 hgd2
    go_upto_region 12 with fail
    go_cut [] (fun wx => Hid (Bk (fun i => (((i < W13.heap.size) ∧ (Value.slice (some ⟨gx, 0, none⟩) n nx).ownBlock ≠ some i) ∧ (Value.slice (some ⟨gy, 0, none⟩) m ny).ownBlock ≠ some i) ∧ ¬ FLp i) pb (0 + 4 + 4 + 4 * ql.length + 2) (0 + n + 400 + m + 400 + keepSum ql + 24 * ql.length + 3000) wx ∧ Keeps (fun i => (((i < W13.heap.size) ∧ (Value.slice (some ⟨gx, 0, none⟩) n nx).ownBlock ≠ some i) ∧ (Value.slice (some ⟨gy, 0, none⟩) m ny).ownBlock ≠ some i) ∧ ¬ FLp i) v2 wx))
    case first =>
      go_wp2_with fail
      refine hk3.mono ?_
      rintro e v3 ⟨rfl, hB3, kk3⟩
      have HR := hid (And.intro hB3 kk3)
      clear hB3 kk3 hk3
      go_wp2
      go_meet
      exact HR
    case rest =>
    obtain ⟨hB3, kk3⟩ := hcut.out
    clear hcut hk3
    obtain ⟨hPn, hoL, hFL, hHF, hHn, hwsn, hqs, hql, hlt13, K14⟩ := HQ.out
    obtain ⟨kv, hR2, hFs, hsum, hprod, hgd2⟩ := HV.out
    have hzs := HZ.out
    have hnn := HNX.out
    have hHs : ∀ i, H' i → (i < W13.heap.size ∧ gx ≠ i ∧ gy ≠ i) ∧ ¬ FLp i := fun i hi => ⟨by
      have := HPP.out
      rcases hHn i hi with h | h
      · rw [h]; exact ⟨by omega, by omega, by omega⟩
      · exact ⟨by omega, by omega, by omega⟩, hHF i hi⟩
    have hWs : ∀ i, (i < w.heap.size ∨ i = gd) → (i < W13.heap.size ∧ gx ≠ i ∧ gy ≠ i) ∧ ¬ FLp i := fun i hi => ⟨by
      rcases hi with h | h
      · exact ⟨by omega, by omega, by omega⟩
      · exact ⟨by omega, by omega, by omega⟩, fun hf => by have := hFL i hf; rcases hi with h | h <;> omega⟩
    have hall : ∀ i, ((i < w.heap.size ∨ i = gd) ∨ H' i) → (((i < W13.heap.size) ∧ (Value.slice (some ⟨gx, 0, none⟩) n nx).ownBlock ≠ some i) ∧ (Value.slice (some ⟨gy, 0, none⟩) m ny).ownBlock ≠ some i) ∧ ¬ FLp i := fun i hi => by
      have h : (i < W13.heap.size ∧ gx ≠ i ∧ gy ≠ i) ∧ ¬ FLp i := by
        rcases hi with h | h
        · exact hWs i h
        · exact hHs i h
      exact ⟨hR2 i h.1.1 h.1.2.1 h.1.2.2, h.2⟩
    apply_assumption
    exact fresh_13 w _ S A B n m c d xs ys ha hb hnn.2.2.1 hnn.2.2.2 hc hd C cc l hO hS hT hsl hln H' p pb gd _ _ o' ((hPn.keep (kv.mono fun i _ hi => (hHs i hi).1)).keep (kk3.mono fun i _ hi => hall i (.inr hi))) hwsn (hB3.less hall) (fun i hi => by
      rcases hHn i hi with h | h
      · rw [h]; exact ⟨by omega, by omega⟩
      · exact ⟨by omega, by omega⟩) (((K3.trans' K14).trans kv fun i hi _ => (hWs i (.inl hi)).1).trans kk3 fun i hi _ => hall i (.inl (.inl hi))) (kk3.heap hgd2 (hall gd (.inl (.inr rfl)))) (by omega) (by omega) (by omega) _ (by kernel_rfl) _ _ _ _ _ _ _ _ _ _ _ _ _ _ _ _ _ _ _ _ _ _ _ _ _ _ _ _ _ _ _ _ _ _ _ _ _ _ _ _ _ _ _ _ _ _ _ _ _ _ _ _ _ _ _ _ _ _ _ _ _ _ _ _ _ _ _ _ _ _ _ _ _ _ _ _ _ _ _ _ _ _ _ _ _ _ _ _ _ _ _ _ _ _ _ _ _ _ _ _ _ _ _ _ _ _ _ _ _ _ _ _ _ _ _ _ _ _ _ _ _ _ _
  | some jr =>
    obtain ⟨j2, recs⟩ := jr
    rw [ho] at hlo
    go_upto_region 4 with fail
    refine wp_region_tree (fun w' => w'.heap[gd]? = some (.cells #[.slice A n c, .slice B m d] 24 (0, 0))) 19
      (.take 0 (.take 1 (.take 2 (.take 3 (.take 4 (.take 5 (.take 6 (.take 7 (.take 8 (.take 9 (.take 10 (.one 11 (.take 12 (.take 13 (.take 14 (.take 15 (.take 16 (.take 17 (.take 18 .tail))))))))))))))))))) (by kernel_rfl) (by kernel_rfl) hd3 ?_
    iterate 11 (refine pt_take (v := ?_) (by rfl) (by first | rfl | kernel_rfl) (fun w' hS => ?_) ?_; rotate_left 1; (have t0 : w'.cell? ⟨gd, 0, none⟩ = some (.slice A n c) := cell_of_heap hS; have t1 : w'.cell? ⟨gd, 1, none⟩ = some (.slice B m d) := cell_of_heap hS; clear hS; go_simp <;> (try with_reducible rfl)); (simp only [Act.put, List.setIfInBounds_toArray, List.set_cons_zero, List.set_cons_succ]))
    refine pt_one (by rfl) (loudly_of (by first | rfl | kernel_rfl) (fun K hK => ?_))
    go_wp2_with fail
    refine hlo.mono ?_
    rintro e wl ⟨F, gl, vA3, vB3, vP3, q3, L3, ql, rfl, hL, hF, hqm, hoL0, kl'⟩
    have kl : Old wy wl := kl'.ofDrew
    have hcnt := open_few ho
    have hlen3 : ql.length = recs.length := by rw [← hqm]; simp
    obtain ⟨AL, cL, hLs, _, hRL⟩ := hoL0.rcs (by omega)
    rw [hqm] at hRL
    subst hLs
    have hF' : ∀ k, F k → wy.heap.size ≤ k ∧ k < wl.heap.size := fun k hk => ⟨hF k hk, hL.lt k hk⟩
    have HLS := hid (And.intro hL (And.intro hF' (And.intro hqm (And.intro hoL0 (And.intro hlen3 hRL)))))
    clear hL hF hF' hqm hoL0 hRL
    have K4 := K3.trans' kl
    have hd4 := kl.heap hd3 trivial
    refine hK _ _ hd4 ?_
    clear hK K hlo
    iterate 7 (refine pt_take (v := ?_) (by rfl) (by first | rfl | kernel_rfl) (fun w' hS => ?_) ?_; rotate_left 1; (have t0 : w'.cell? ⟨gd, 0, none⟩ = some (.slice A n c) := cell_of_heap hS; have t1 : w'.cell? ⟨gd, 1, none⟩ = some (.slice B m d) := cell_of_heap hS; clear hS; go_simp <;> (try with_reducible rfl)); (simp only [Act.put, List.setIfInBounds_toArray, List.set_cons_zero, List.set_cons_succ]))
    refine pt_tail (by rfl) ?_
    go_wp2
    refine NoPanic.normal ?_
    have q0 : wl.cell? ⟨gd, 0, none⟩ = some (.slice A n c) := cell_of_heap hd4
    have q1 : wl.cell? ⟨gd, 1, none⟩ = some (.slice B m d) := cell_of_heap hd4
    have hnl := HNX.out.2.2
    have hro := ropen_any wl S A B n m c d xs ys (HKA.out wl K4).1 (HKA.out wl K4).2.1 hnl.1 hnl.2 hc hd
    rw [ho] at hro
    clear hnl
    go_wp2_with fail
    refine hro.mono ?_
    rintro e w6 ⟨G, gm, vA4, vB4, vP4, q4, M, qm, rfl, hR, hG, hqm2, hoM, k6⟩
    clear hro
    have k46 := kl.trans' k6
    have hlenm : qm.length = recs.length := by rw [← hqm2]; simp
    obtain ⟨AM, cM, hMs, _, hRM⟩ := hoM.rcs (by omega)
    rw [hqm2] at hRM
    rw [hlenm] at hMs
    subst hMs
    obtain ⟨hL, hF', hqm, hoL0, hlen3, hRL⟩ := HLS.out
    have hls := lists_any w6 (fun _ => True) (fun _ => True) AL AM cL cM recs recs ((hRL.mono fun _ _ _ => trivial).keep (k6.old _)) (hRM.mono fun _ _ _ => trivial)
    rw [decide_eq_true (show recs = recs from rfl)] at hls
    have HLR := hid (And.intro hlen3 (And.intro hR (And.intro hG k6)))
    clear hL hF' hqm hoL0 hRL hRM hoM hqm2 hlenm hlen3 hR hG
    go_upto_region 6 with fail
    go_wp2_with fail
    refine hls.mono ?_
    rintro e w8 ⟨rfl, nd8, hw8⟩
    have k8 : Old w6 w8 := by rw [← hw8]; exact (Keeps.refl _ _).drewN _
    clear hw8 hls q0 q1
    have K28 := k46.trans' k8
    have hd8 := K28.heap hd3 trivial
    have g0 : w8.cell? ⟨gd, 0, none⟩ = some (.slice A n c) := cell_of_heap hd8
    have hca := HRO.out.1 w8 S A c (HKA.out w8 (K3.trans' K28)).1
    go_wp2_with fail
    refine hca.mono ?_
    rintro e w9 ⟨rfl, hr9, k9⟩
    clear hca
    have hca := HSS.out.1 w9 _ _ _ _ nx nx ((HRX.out.1.keep (K28.trans' k9) trivial).btsT) hr9.btsT
    go_wp2_with fail
    refine hca.mono ?_
    rintro e w10 ⟨rfl, nd10, hw10⟩
    have k10 : Old w9 w10 := by rw [← hw10]; exact (Keeps.refl _ _).drewN _
    clear hw10 hca hr9
    have K210 := (K28.trans' k9).trans' k10
    have hd10 := K210.heap hd3 trivial
    have g1 : w10.cell? ⟨gd, 1, none⟩ = some (.slice B m d) := cell_of_heap hd10
    have hca := HRO.out.2 w10 S B d (HKA.out w10 (K3.trans' K210)).2.1
    go_wp2_with fail
    refine hca.mono ?_
    rintro e w11 ⟨rfl, hr11, k11⟩
    clear hca
    have hca := HSS.out.2 w11 _ _ _ _ ny ny ((HRX.out.2.keep (K210.trans' k11) trivial).btsT) hr11.btsT
    go_wp2_with fail
    refine hca.mono ?_
    rintro e w12 ⟨rfl, nd12, hw12⟩
    have k12 : Old w11 w12 := by rw [← hw12]; exact (Keeps.refl _ _).drewN _
    clear hw12 hca hr11
    have K612 : Old w6 w12 := (((k8.trans' k9).trans' k10).trans' k11).trans' k12
    have K212 : Old wy w12 := k46.trans' K612
    obtain ⟨p, hp⟩ : ∃ p, p = w12.heap.size := ⟨_, rfl⟩
    obtain ⟨hL, hF', hqm, hoL0, _, _⟩ := HLS.out
    obtain ⟨hlen3, hR, hG, k6'⟩ := HLR.out
    have kl12 : Old wl w12 := k6.trans' K612
    have zl := kl.size
    have z12 := kl12.size
    obtain ⟨H', hH'⟩ : ∃ H' : Nat → Prop, H' = fun k => k = p ∨ F k ∨ G k := ⟨_, rfl⟩
    obtain ⟨FLp, hFLp⟩ : ∃ FLp : Nat → Prop, FLp = fun k => (wy.heap.size ≤ k ∧ ¬ F k) ∧ k < wl.heap.size := ⟨_, rfl⟩
    obtain ⟨o', ho'⟩ : ∃ o' : Option Jn, o' = some j2 := ⟨_, rfl⟩
    have hR12 := hR.keep (K612.old _)
    have hPq : ∀ W, Old w12 W → W.heap[p]? = some (.cells #[.pointer (some ⟨gl, 0, none⟩), .pointer (some ⟨gm, 0, none⟩)] 29 (0, 0)) → PairAt H' W p o' := fun W kW hp12 => by
      rw [hH', ho']
      exact pair_new2 hp12 (hL.keep ((kl12.trans' kW).old _)) (hR12.keep (kW.old _)) (fun k hk => ⟨by have := hF' k hk; omega, fun hg => by have := hF' k hk; have h' : wl.heap.size ≤ k := hG k hg; omega⟩) (fun k hk => by have := hR12.lt k hk; omega)
    have hoL12 : OwnR FLp w12 (.slice AL recs.length cL) ql := by
      rw [hFLp, ← hlen3]
      exact (hoL0.mono fun k hk (h : wy.heap.size ≤ k ∧ ¬ F k) => ⟨h, hk⟩).keep (kl12.old _)
    have hFL : ∀ k, FLp k → wy.heap.size ≤ k ∧ k < w12.heap.size := fun k hk => by rw [hFLp] at hk; have h1 := hk.1.1; have h2 := hk.2; omega
    have hHF : ∀ k, H' k → ¬ FLp k := fun k h hk => by
      rw [hFLp] at hk
      rw [hH'] at h
      have h1 := hk.1.1
      have h2 := hk.2
      rcases h with h | h | h
      · omega
      · exact hk.1.2 h
      · have h' : wl.heap.size ≤ k := hG k h
        omega
    have hHn : ∀ k, H' k → k = p ∨ (wy.heap.size ≤ k ∧ k < w12.heap.size) := fun k h => by
      rw [hH'] at h
      rcases h with h | h | h
      · exact .inl h
      · have := hF' k h; right; omega
      · have h' : wl.heap.size ≤ k := hG k h
        have := hR12.lt k h
        right; omega
    have hwsn : wsN o' ≤ 1 := by rw [ho']; exact (open_down ho).2
    have hqs : ∀ x ∈ ql, x.1.length ≤ 65536 := fun x hx => open_short ho _ (by rw [← hqm]; exact List.mem_map.2 ⟨x, hx, rfl⟩)
    have hql : ql.length ≤ 100000 := by omega
    clear hH' hFLp ho' k46 K28 K210 k8 k9 k10 k11 k12 hd8 hd10 g0 g1 K4 hd4 kl k6 kl' hL hF' hqm hoL0 hlen3 hR hG k6' kl12 zl z12 hR12 HLS HLR
    obtain ⟨W13, hW13⟩ : ∃ W, W = w12.alloc (.cells #[.pointer (some ⟨gl, 0, none⟩), .pointer (some ⟨gm, 0, none⟩)] 29) := ⟨_, rfl⟩
    have k13 : Old w12 W13 := by rw [hW13]; exact (Keeps.refl _ _).alloc _
    have hp13 : W13.heap[p]? = some (.cells #[.pointer (some ⟨gl, 0, none⟩), .pointer (some ⟨gm, 0, none⟩)] 29 (0, 0)) := by rw [hW13, hp]; exact heap_alloc_new _ _
    have z13 : W13.heap.size = p + 1 := by rw [hW13, hp]; simp
    go_upto_region 9 with fail
    rw [← hW13, ← hp]
    obtain ⟨pb, hpb⟩ : ∃ p, p = W13.heap.size := ⟨_, rfl⟩
    obtain ⟨W14, hW14⟩ : ∃ W, W = W13.alloc (.cells #[.slice none 0 0, .slice none 0 0, .int .i64 0, .slice none 0 0] 83) := ⟨_, rfl⟩
    have k14 : Old W13 W14 := by rw [hW14]; exact (Keeps.refl _ _).alloc _
    have hBk : Bk (fun i => i < W13.heap.size) pb 0 0 W14 := by rw [hW14, hpb]; exact Bk.new _ fun _ h => h
    have HPP := hid (And.intro hp (And.intro z13 hpb))
    clear hW13 hp z13
    go_upto_region 10 with fail
    rw [← hW14, ← hpb]
    clear hW14 hpb
    have K14 : Old wy W14 := (K212.trans' k13).trans' k14
    have hzs := HZ.out
    have hd14 := K14.heap hd3 trivial
    have q0 : W14.cell? ⟨gd, 0, none⟩ = some (.slice A n c) := cell_of_heap hd14
    have hnn := HNX.out
    have zK := K212.size
    have hlt13 : wy.heap.size ≤ p ∧ p < W13.heap.size := by have := HPP.out; omega
    have hk1 := keep_bk hBk (by omega) (by omega) (lv := .slice (some ⟨gx, 0, none⟩) n nx) (n := n) (.inr ⟨gx, nx, rfl, by simpa using (HRX.out.1.keep K14 trivial).take 0, by omega, by unfold maxLen; omega, by show gx < W13.heap.size; omega⟩) (by omega)
    have hPn := hPq W14 (k13.trans' k14) (by exact k14.heap hp13 trivial)
    have hoL := hoL12.keep ((k13.trans' k14).old FLp)
    have HQ := hid (And.intro hPn (And.intro hoL (And.intro hFL (And.intro hHF (And.intro hHn (And.intro hwsn (And.intro hqs (And.intro hql (And.intro hlt13 K14)))))))))
    clear hPn hoL hFL hHF hHn hwsn hqs hlt13 hBk hp13 k13 k14 K14 hoL12 hPq hnn hzs zK K612
    go_wp2_with fail
    refine hk1.mono ?_
    rintro e v1 ⟨rfl, hB1, kk1⟩
    clear hk1 q0
    obtain ⟨hPn, hoL, hFL, hHF, hHn, hwsn, hqs, hql, hlt13, K14⟩ := HQ.out
    have hzs := HZ.out
    have hnn := HNX.out
    have zK14 := K14.size
    have hgd1 := kk1.heap hd14 ⟨by show gd < W13.heap.size; omega, fun e => by injection e with e; have e' : gx = gd := e; omega⟩
    have q1 : v1.cell? ⟨gd, 1, none⟩ = some (.slice B m d) := cell_of_heap hgd1
    have hry1 := (HRX.out.2.keep K14 trivial).keep kk1 ⟨by show gy < W13.heap.size; omega, fun e => by injection e with e; have e' : gx = gy := e; omega⟩
    have hk2 := keep_bk hB1 (by omega) (by omega) (lv := .slice (some ⟨gy, 0, none⟩) m ny) (n := m) (.inr ⟨gy, ny, rfl, by simpa using hry1.take 0, by omega, by unfold maxLen; omega, by show gy < W13.heap.size; omega, fun e => by injection e with e; have e' : gx = gy := e; omega⟩) (by omega)
    have HKK := hid kk1
    clear hPn hoL hFL hHF hHn hwsn hqs hlt13 K14 hzs hnn zK14 hry1 hB1 kk1
    go_wp2_with fail
    refine hk2.mono ?_
    rintro e v2 ⟨rfl, hB2, kk2⟩
    clear hk2 q1
    obtain ⟨hPn, hoL, hFL, hHF, hHn, hwsn, hqs, hql, hlt13, K14⟩ := HQ.out
    have hzs := HZ.out
    have hR2 : ∀ i, i < W13.heap.size → gx ≠ i → gy ≠ i → ((i < W13.heap.size) ∧ (Value.slice (some ⟨gx, 0, none⟩) n nx).ownBlock ≠ some i) ∧ (Value.slice (some ⟨gy, 0, none⟩) m ny).ownBlock ≠ some i := fun i h1 h2 h3 => ⟨⟨h1, fun e => by injection e with e; exact h2 e⟩, fun e => by injection e with e; exact h3 e⟩
    have kv : Keeps (fun i => i < W13.heap.size ∧ gx ≠ i ∧ gy ≠ i) W14 v2 := (HKK.out.mono fun i _ hi => (hR2 i hi.1 hi.2.1 hi.2.2).1).trans' (kk2.mono fun i _ hi => hR2 i hi.1 hi.2.1 hi.2.2)
    have hFs : ∀ i, FLp i → i < W13.heap.size ∧ gx ≠ i ∧ gy ≠ i := fun i hi => by have := hFL i hi; have := HPP.out; exact ⟨by omega, by omega, by omega⟩
    have hoL2 := hoL.keep (kv.mono fun i _ hi => hFs i hi)
    have hsum := keepSum_le' (q := ql) (B := 65536) hqs
    have hprod : ql.length * (65536 + 400) ≤ 6593600000 := Nat.le_trans (Nat.mul_le_mul_right _ hql) (by decide)
    have hk3 := keepAll_bk hB2 (by omega) (by omega) hoL2 (fun i hi => hR2 i (hFs i hi).1 (hFs i hi).2.1 (hFs i hi).2.2) (by omega) (fun y hy => by have := hqs y hy; omega) (by omega)
    have hgd2 := kv.heap hd14 ⟨by show gd < W13.heap.size; omega, by omega, by omega⟩
    have HV := hid (And.intro kv (And.intro hR2 (And.intro hFs (And.intro hsum (And.intro hprod hgd2)))))
    clear hPn hoL hFL hHF hHn hwsn hqs hlt13 K14 hzs hR2 kv hFs hoL2 hsum hprod hB2 kk2 hgd1 hgd2
    go_upto_region 12 with fail
    go_cut [] (fun wx => Hid (Bk (fun i => (((i < W13.heap.size) ∧ (Value.slice (some ⟨gx, 0, none⟩) n nx).ownBlock ≠ some i) ∧ (Value.slice (some ⟨gy, 0, none⟩) m ny).ownBlock ≠ some i) ∧ ¬ FLp i) pb (0 + 4 + 4 + 4 * ql.length + 2) (0 + n + 400 + m + 400 + keepSum ql + 24 * ql.length + 3000) wx ∧ Keeps (fun i => (((i < W13.heap.size) ∧ (Value.slice (some ⟨gx, 0, none⟩) n nx).ownBlock ≠ some i) ∧ (Value.slice (some ⟨gy, 0, none⟩) m ny).ownBlock ≠ some i) ∧ ¬ FLp i) v2 wx))
    case first =>
      go_wp2_with fail
      refine hk3.mono ?_
      rintro e v3 ⟨rfl, hB3, kk3⟩
      have HR := hid (And.intro hB3 kk3)
      clear hB3 kk3 hk3
      go_wp2
      go_meet
      exact HR
    case rest =>
    obtain ⟨hB3, kk3⟩ := hcut.out
    clear hcut hk3
    obtain ⟨hPn, hoL, hFL, hHF, hHn, hwsn, hqs, hql, hlt13, K14⟩ := HQ.out
    obtain ⟨kv, hR2, hFs, hsum, hprod, hgd2⟩ := HV.out
    have hzs := HZ.out
    have hnn := HNX.out
    have hHs : ∀ i, H' i → (i < W13.heap.size ∧ gx ≠ i ∧ gy ≠ i) ∧ ¬ FLp i := fun i hi => ⟨by
      have := HPP.out
      rcases hHn i hi with h | h
      · rw [h]; exact ⟨by omega, by omega, by omega⟩
      · exact ⟨by omega, by omega, by omega⟩, hHF i hi⟩
    have hWs : ∀ i, (i < w.heap.size ∨ i = gd) → (i < W13.heap.size ∧ gx ≠ i ∧ gy ≠ i) ∧ ¬ FLp i := fun i hi => ⟨by
      rcases hi with h | h
      · exact ⟨by omega, by omega, by omega⟩
      · exact ⟨by omega, by omega, by omega⟩, fun hf => by have := hFL i hf; rcases hi with h | h <;> omega⟩
    have hall : ∀ i, ((i < w.heap.size ∨ i = gd) ∨ H' i) → (((i < W13.heap.size) ∧ (Value.slice (some ⟨gx, 0, none⟩) n nx).ownBlock ≠ some i) ∧ (Value.slice (some ⟨gy, 0, none⟩) m ny).ownBlock ≠ some i) ∧ ¬ FLp i := fun i hi => by
      have h : (i < W13.heap.size ∧ gx ≠ i ∧ gy ≠ i) ∧ ¬ FLp i := by
        rcases hi with h | h
        · exact hWs i h
        · exact hHs i h
      exact ⟨hR2 i h.1.1 h.1.2.1 h.1.2.2, h.2⟩
    apply_assumption
    exact fresh_13 w _ S A B n m c d xs ys ha hb hnn.2.2.1 hnn.2.2.2 hc hd C cc l hO hS hT hsl hln H' p pb gd _ _ o' ((hPn.keep (kv.mono fun i _ hi => (hHs i hi).1)).keep (kk3.mono fun i _ hi => hall i (.inr hi))) hwsn (hB3.less hall) (fun i hi => by
      rcases hHn i hi with h | h
      · rw [h]; exact ⟨by omega, by omega⟩
      · exact ⟨by omega, by omega⟩) (((K3.trans' K14).trans kv fun i hi _ => (hWs i (.inl hi)).1).trans kk3 fun i hi _ => hall i (.inl (.inl hi))) (kk3.heap hgd2 (hall gd (.inl (.inr rfl)))) (by omega) (by omega) (by omega) _ (by kernel_rfl) _ _ _ _ _ _ _ _ _ _ _ _ _ _ _ _ _ _ _ _ _ _ _ _ _ _ _ _ _ _ _ _ _ _ _ _ _ _ _ _ _ _ _ _ _ _ _ _ _ _ _ _ _ _ _ _ _ _ _ _ _ _ _ _ _ _ _ _ _ _ _ _ _ _ _ _ _ _ _ _ _ _ _ _ _ _ _ _ _ _ _ _ _ _ _ _ _ _ _ _ _ _ _ _ _ _ _ _ _ _ _ _ _ _ _ _ _ _ _ _ _ _ _
end Go.Proofs.YtdpaaoeipconcaaDoor
