/- weftlaw12.Pair.handed: a step whose lists are handed in with spare room, unchanged, then written over by the caller. Conditions: the pair and the book lie, apart; what is handed in can be read and is of small bulk; the table lies. -/
import Derived.Test.YtdpaaoeipconcaaDoorJHand18
namespace Go.Proofs.YtdpaaoeipconcaaDoor
open Go.RowKit

set_option maxRecDepth 10000 in
set_option maxHeartbeats 32000000 in
theorem handed_any (w : World) (R H S : Nat → Prop) (pb N Z p : Nat) (o : Option Jn) (kd n : Int) (A1 B1 : Option Addr) (c1 d1 : Nat) (one : List UInt8) (many : List (List UInt8)) (hB : Bk R pb N Z w) (hP : PairAt H w p o) (hHR : ∀ k, H k → R k) (h7 : Bts S w A1 one) (h8 : Rcs S w B1 many) (hS : ∀ k, S k → R k ∧ ¬ H k)
    (hn0 : -9223372036854775808 ≤ n) (hn1 : n < 9223372036854775808) (hT : Tab w) (hH0 : ¬ H 0) (hR0 : R 0) (hw : wsN o ≤ 100000000) (hN : N ≤ 1900000000000) (hZ : Z ≤ 1900000000000000000) (hone : one.length ≤ 1048576) (hmany : many.length ≤ 1048576) (hall : ∀ r ∈ many, r.length ≤ 1048576) :
    Calls Tryd.prog 51 #[.pointer (some ⟨p, 0, none⟩), .agg #[.int .i64 kd, .slice A1 one.length c1, .slice B1 many.length d1, .int .i64 n], .pointer (some ⟨pb, 0, none⟩)] w (PostHand R H pb N Z p o w) := by
  obtain ⟨go, hgo⟩ : ∃ go, go = w.heap.size := ⟨_, rfl⟩
  obtain ⟨W0, hW0⟩ : ∃ W, W = w.alloc (.cells #[.int .i64 kd, .slice A1 one.length c1, .slice B1 many.length d1, .int .i64 n] 54) := ⟨_, rfl⟩
  have k0 : Old w W0 := by rw [hW0]; exact (Keeps.refl _ _).alloc _
  have hb0 : W0.heap[go]? = some (.cells #[.int .i64 kd, .slice A1 one.length c1, .slice B1 many.length d1, .int .i64 n] 54 (0, 0)) := by rw [hW0, hgo]; exact heap_alloc_new _ _
  have s1 : W0.cell? ⟨go, 1, none⟩ = some (.slice A1 one.length c1) := cell_of_heap hb0
  obtain ⟨nr, hnr⟩ : ∃ nr, nr = one.length + 64 := ⟨_, rfl⟩
  have hro := fun (W : World) S A c (hb : Bts S W A one) => roomy_any W S A c one hb (by omega)
  unfold PostRoom at hro
  rw [← hnr] at hro
  have HRO := hid hro
  have HNR := hid hnr
  have inr : (one.length : Int) ≤ (nr : Int) := by omega
  have hc0 := hro W0 S A1 c1 (h7.keep (k0.old _))
  have z0 : W0.heap.size = go + 1 := by rw [hW0, hgo]; simp
  have HX := hid (And.intro hB (And.intro hP (And.intro hHR (And.intro h7 (And.intro h8 (And.intro hS (And.intro hT (And.intro hH0 hR0))))))))
  have hS8 := h8
  have hB0l := hB.1
  have hSR := fun i hi => (hS i hi).1
  clear hnr hro hB hP hHR h7 h8 hS hT hH0 hR0
  go_enter Tryd.func51, Tryd.ntmps51
  go_upto_region 1 with fail
  rw [← hW0, ← hgo]
  have HGO := hid (And.intro hgo z0)
  clear hW0 hgo z0
  go_wp2_with fail
  refine hc0.mono ?_
  rintro e w1 ⟨rfl, hr1, k1⟩
  clear hc0 s1
  obtain ⟨gr, hgr⟩ : ∃ gr, gr = W0.heap.size := ⟨_, rfl⟩
  rw [← hgr] at hr1
  have zr := hr1.lt
  have hb1 := k1.heap hb0 trivial
  have K1 := k0.trans' k1
  go_upto_region 2 with fail
  rw [← hgr]
  have HGR := hid hgr
  clear hgr hb0
  refine wp_region_tree (fun w' => w'.heap[go]? = some (.cells #[.int .i64 kd, .slice A1 one.length c1, .slice B1 many.length d1, .int .i64 n] 54 (0, 0))) 12
    (.take 0 (.take 1 (.take 2 (.take 3 (.take 4 (.take 5 (.take 6 (.take 7 (.take 8 (.take 9 (.one 10 (.one 11 .tail)))))))))))) (by kernel_rfl) (by kernel_rfl) hb1 ?_
  iterate 10 (refine pt_take (v := ?_) (by rfl) (by first | rfl | kernel_rfl) (fun w' hS => ?_) ?_; rotate_left 1; (have t0 : w'.cell? ⟨go, 0, none⟩ = some (.int .i64 kd) := cell_of_heap hS; have t1 : w'.cell? ⟨go, 1, none⟩ = some (.slice A1 one.length c1) := cell_of_heap hS; have t2 : w'.cell? ⟨go, 2, none⟩ = some (.slice B1 many.length d1) := cell_of_heap hS; have t3 : w'.cell? ⟨go, 3, none⟩ = some (.int .i64 n) := cell_of_heap hS; clear hS; go_simp <;> (try with_reducible rfl)); (simp only [Act.put, List.setIfInBounds_toArray, List.set_cons_zero, List.set_cons_succ]))
  refine pt_one (by rfl) (loudly_of (by first | rfl | kernel_rfl) (fun K hK => ?_))
  go_wp2
  obtain ⟨gxo, hgx⟩ : ∃ gxo, gxo = w1.heap.size := ⟨_, rfl⟩
  obtain ⟨W2, hW2⟩ : ∃ W, W = (w1.alloc (.cells #[.int .i64 0, .slice none 0 0, .slice none 0 0, .int .i64 0] 54)).drew := ⟨_, rfl⟩
  have hx2 : W2.heap[gxo]? = some (.cells #[.int .i64 0, .slice none 0 0, .slice none 0 0, .int .i64 0] 54 (0, 0)) := by rw [hW2, hgx]; exact heap_alloc_new _ _
  have k2 : Old w1 W2 := by rw [hW2]; exact ((Keeps.refl _ _).alloc _).drew
  rw [← hW2, ← hgx]
  have hb2 := k2.heap hb1 trivial
  refine hK _ _ hb2 ?_
  clear hK K hW2
  refine pt_one (by rfl) (loudly_of (by first | rfl | kernel_rfl) (fun K hK => ?_))
  have x0 : W2.cell? ⟨gxo, 0, none⟩ = some (.int .i64 0) := cell_of_heap hx2
  have x1 : W2.cell? ⟨gxo, 1, none⟩ = some (.slice none 0 0) := cell_of_heap hx2
  have x2 : W2.cell? ⟨gxo, 2, none⟩ = some (.slice none 0 0) := cell_of_heap hx2
  have x3 : W2.cell? ⟨gxo, 3, none⟩ = some (.int .i64 0) := cell_of_heap hx2
  have xf : ∀ i, W2.frozen? ⟨gxo, i, none⟩ = false := fun i => frozen_of_heap hx2
  have HGX := hid hgx
  clear hgx
  go_wp2
  obtain ⟨W3, hW3⟩ : ∃ W, W = (((W2.setCell ⟨gxo, 0, none⟩ (.int .i64 kd)).setCell ⟨gxo, 1, none⟩ (.slice (some ⟨gr, 0, none⟩) one.length nr)).setCell ⟨gxo, 2, none⟩ (.slice none 0 0)).setCell ⟨gxo, 3, none⟩ (.int .i64 n) := ⟨_, rfl⟩
  have hx3 : W3.heap[gxo]? = some (.cells #[.int .i64 kd, .slice (some ⟨gr, 0, none⟩) one.length nr, .slice none 0 0, .int .i64 n] 54 (0, 0)) := by
    rw [hW3, heap_setCell (heap_setCell (heap_setCell (heap_setCell hx2 _) _) _) _]
    rfl
  have k3 : Keeps (· ≠ gxo) W2 W3 := by rw [hW3]; exact ((((Keeps.refl _ _).setCell (fun _ h => h rfl) _).setCell (fun _ h => h rfl) _).setCell (fun _ h => h rfl) _).setCell (fun _ h => h rfl) _
  rw [← hW3]
  have zz1 := k1.size
  have zz2 := k2.size
  have hrb : gr < gxo := by rw [HGX.out]; exact zr
  have hgg : w.heap.size ≤ go ∧ go < gr := by have h1 := HGR.out; have h2 := HGO.out; omega
  have hb3 := k3.heap hb2 (show go ≠ gxo by omega)
  have hr3 := (hr1.keep k2 trivial).keep k3 (show gr ≠ gxo by omega)
  have K3 : Old w W3 := (K1.trans' k2).trans k3 fun i hi _ => by show i ≠ gxo; omega
  have hxlt := lt_of_heap hx3
  refine hK _ _ hb3 ?_
  clear hK K hW3 x0 x1 x2 x3 xf hx2 hb2 hb1 k2 k3 hr1 K1 k1 k0 zz1 zz2 zr
  refine pt_tail (by rfl) ?_
  go_wp2
  refine NoPanic.normal ?_
  have HG := hid (show w.heap.size ≤ go ∧ go < gr ∧ gr < gxo ∧ gxo < W3.heap.size from ⟨by omega, by omega, hrb, hxlt⟩)
  have H3 := hid (And.intro hr3 (And.intro hb3 (And.intro hx3 K3)))
  have hm6 : many.length ≤ 1048576 := hmany
  have HS := hid (show InHand1 W3 gxo kd n (.slice (some ⟨gr, 0, none⟩) one.length nr) many 0 (.slice none 0 0) W3 from ⟨[], _, by simp, Rooms.nil _ _, World.ownsRow_nil _ _ _ _, World.ownsRow_nil _ _ _ _, by simp [Value.ownBlock], by simp [Value.ownBlock], hx3, Keeps.refl _ _⟩)
  clear hgg hrb hr3 hb3 hx3 K3 hxlt
  go_wp2
  go_loopw [9, 10, 11] (fun vR i _ wr => ∃ k : Nat, i = .int .i64 k ∧ k ≤ many.length ∧ Hid (InHand1 W3 gxo kd n (.slice (some ⟨gr, 0, none⟩) one.length nr) many k vR wr)) (fun _ i _ _ => many.length - (intOf i).toNat)
  case atStart => exact ⟨0, rfl, Nat.zero_le _, HS⟩
  case round =>
    clear HS
    obtain ⟨k, rfl, hk, hin⟩ := hrel
    have i0 : (0 : Int) ≤ (k : Int) := by omega
    obtain ⟨q, XR, hq, hR, hr, hx, hrn, hxn, hg, hkp⟩ := hin.out
    clear hin
    obtain ⟨AR, cR, hvR, _, _⟩ := own_slice hr
    subst hvR
    obtain ⟨AX, cX, hvX, _, _⟩ := own_slice hx
    subst hvX
    have hob := HG.out
    have hgo := hkp.heap H3.out.2.1 (show go ≠ gxo by omega)
    have y2 : wr.cell? ⟨go, 2, none⟩ = some (.slice B1 many.length d1) := cell_of_heap hgo
    by_cases hlt : k < many.length
    · have i1 : (k : Int) < (many.length : Int) := by omega
      have hSk : Keeps S w wr := (H3.out.2.2.2.old S).trans hkp fun i hi _ e => by omega
      obtain ⟨b, off, Ak, ck, rfl, hSb, hcell, hck, hbk⟩ := (hS8.keep hSk).at_ hlt
      have hmk := hall _ (List.getElem_mem hlt)
      obtain ⟨nk, hnk⟩ : ∃ nk, nk = many[k].length + 64 := ⟨_, rfl⟩
      have ink : (many[k].length : Int) ≤ (nk : Int) := by omega
      have hca := roomy_any wr S Ak ck many[k] hbk (by omega)
      unfold PostRoom at hca
      rw [← hnk] at hca
      have HNK := hid hnk
      clear hnk
      go_wp2_with fail
      refine hca.mono ?_
      rintro e w1 ⟨rfl, h1, k1⟩
      clear hca
      obtain ⟨gk, hgk⟩ : ∃ gk, gk = wr.heap.size := ⟨_, rfl⟩
      obtain ⟨W4, hW4⟩ : ∃ W, W = w1.alloc (.cells #[.slice (some ⟨gk, 0, none⟩) nk nk] 22) := ⟨_, rfl⟩
      have k2 : Old w1 W4 := by rw [hW4]; exact (Keeps.refl _ _).alloc _
      have hb4 : W4.heap[w1.heap.size]? = some (.cells #[.slice (some ⟨gk, 0, none⟩) nk nk] 22 (0, 0)) := by rw [hW4]; exact heap_alloc_new _ _
      rw [← hgk] at h1
      go_upto_region 8 with fail
      rw [← hgk]
      have HGK := hid hgk
      clear hgk
      have hrow := own_keeps (own_keeps hr k1 (fun _ _ => trivial)) k2 (fun _ _ => trivial)
      go_upto_region 9 with (at_builtin; rw [← hW4]; refine wpList_append_ex _ (by rfl) _ _ 35 22 (by rfl) Tryd.underlying35 info22 (by rfl) (by omega) (by rfl) hrow (some ⟨w1.heap.size, 0, none⟩) 1 1 [.slice (some ⟨gk, 0, none⟩) nk nk] (by rfl) (by rfl) (fun _ => ⟨_, rfl, World.news_of_block hb4⟩) (one_one rfl) (by omega) (by unfold maxLen; omega) ?_; intro v6 w6 hown6 hgrow6 hat6)
      obtain ⟨A6, c6, hv6, _, _⟩ := own_slice hown6
      subst hv6
      have K16 : Keeps (fun i => (Value.slice AR k cR).ownBlock ≠ some i) W4 w6 := (Keeps.refl _ W4).grown hgrow6 (fun i _ h hn => hn h)
      have KR6 : Keeps (fun i => (Value.slice AR k cR).ownBlock ≠ some i) wr w6 := ((k1.trans' k2).old _).trans' K16
      have hrgo : (Value.slice AR k cR).ownBlock ≠ some go := own_ne_heap hr hgo (by decide)
      have hrgx : (Value.slice AR k cR).ownBlock ≠ some gxo := own_ne_heap hr hg (by decide)
      have hgo6 := KR6.heap hgo hrgo
      have hg6 := KR6.heap hg hrgx
      have hbw : b < w.heap.size := hB0l b (hSR b hSb)
      have hcell6 := (KR6.cell (lt_of_cell hcell) (fun e => by have := (hrn b e).1; omega)).trans hcell
      have hX6 := own_keeps hx KR6 (fun i hi e => (hrn i e).2 hi)
      obtain ⟨W7, hW7⟩ : ∃ W, W = (w6.alloc (.cells #[.slice (some ⟨gk, 0, none⟩) many[k].length nk] 22)).drew := ⟨_, rfl⟩
      have k7 : Old w6 W7 := by rw [hW7]; exact ((Keeps.refl _ _).alloc _).drew
      have hb7 : W7.heap[w6.heap.size]? = some (.cells #[.slice (some ⟨gk, 0, none⟩) many[k].length nk] 22 (0, 0)) := by rw [hW7]; exact heap_alloc_new _ _
      have hX7 := own_keeps hX6 k7 (fun _ _ => trivial)
      refine wp_region_tree (fun w' => w'.heap[go]? = some (.cells #[.int .i64 kd, .slice A1 one.length c1, .slice (some ⟨b, off, none⟩) many.length d1, .int .i64 n] 54 (0, 0)) ∧ w'.heap[gxo]? = some (.cells #[.int .i64 kd, .slice (some ⟨gr, 0, none⟩) one.length nr, .slice AX k cX, .int .i64 n] 54 (0, 0)) ∧ w'.cell? ⟨b, off + k, none⟩ = some (.slice Ak many[k].length ck)) 13
        ((.take 0 (.take 1 (.take 2 (.take 3 (.take 4 (.take 5 (.take 6 (.take 7 (.take 8 (.take 9 (.one 10 (.one 11 (.take 12 .tail)))))))))))))) (by kernel_rfl) (by kernel_rfl) ⟨hgo6, hg6, hcell6⟩ ?_
      iterate 10 (refine pt_take (v := ?_) (by rfl) (by first | rfl | kernel_rfl) (fun w' hS => ?_) ?_; rotate_left 1; (obtain ⟨hS, hS2, t9⟩ := hS; have u0 : w'.cell? ⟨gxo, 2, none⟩ = some (.slice AX k cX) := cell_of_heap hS2; clear hS2; have t0 : w'.cell? ⟨go, 0, none⟩ = some (.int .i64 kd) := cell_of_heap hS; have t1 : w'.cell? ⟨go, 1, none⟩ = some (.slice A1 one.length c1) := cell_of_heap hS; have t2 : w'.cell? ⟨go, 2, none⟩ = some (.slice (some ⟨b, off, none⟩) many.length d1) := cell_of_heap hS; have t3 : w'.cell? ⟨go, 3, none⟩ = some (.int .i64 n) := cell_of_heap hS; clear hS; go_simp <;> (try with_reducible rfl)); (simp only [Act.put, List.setIfInBounds_toArray, List.set_cons_zero, List.set_cons_succ]))
      refine pt_one (by rfl) (loudly_of (by first | rfl | kernel_rfl) (fun K hK => ?_))
      go_wp2
      rw [← hW7]
      refine hK _ _ ⟨k7.heap hgo6 trivial, k7.heap hg6 trivial, (k7.cell (lt_of_cell hcell6) trivial).trans hcell6⟩ ?_
      clear hK K hW7
      refine pt_one (by rfl) (loudly_of (by first | rfl | kernel_rfl) (fun K hK => ?_))
      refine wp_append_ex W7 _ _ 35 22 (by rfl) Tryd.underlying35 info22 (by rfl) (by omega) (by rfl) hX7 (some ⟨w6.heap.size, 0, none⟩) 1 1 [.slice (some ⟨gk, 0, none⟩) many[k].length nk] (by rfl) (by rfl) (fun _ => ⟨_, rfl, World.news_of_block hb7⟩) (one_one rfl) (by omega) (by unfold maxLen; omega) ?_
      intro v8 w8 hown8 hgrow8 hat8
      simp only [Act.put, List.setIfInBounds_toArray, List.set_cons_zero, List.set_cons_succ]
      obtain ⟨A8, c8, hv8, _, _⟩ := own_slice hown8
      subst hv8
      have hst := InHand1.step (w := W3) (wr := wr) (w1 := w1) (W2 := W4) (w3 := w6) (W4 := W7) (w5 := w8) (vR := .slice AR k cR) (XR := .slice AX k cX) (vR3 := .slice A6 (k + 1) c6) (XR5 := .slice A8 (k + 1) c8) hlt hq hR hr hx hrn hxn hg hkp hob.2.2.2
        (by rw [← HNK.out, ← HGK.out]; exact h1) k1 k2 (by show _; unfold RV; simp only; rw [← HNK.out, ← HGK.out]; exact hown6) hgrow6 hat6 k7 (by show _; unfold XV; simp only; rw [← HNK.out, ← HGK.out]; exact hown8) hgrow8 hat8
      obtain ⟨hst1, hst2, hst3⟩ := hst
      have K8 : Keeps (fun i => (Value.slice AX k cX).ownBlock ≠ some i) W7 w8 := (Keeps.refl _ W7).grown hgrow8 (fun i _ h hn => hn h)
      have hgo8 := K8.heap (k7.heap hgo6 trivial) (fun e => own_ne_heap hx hgo (by decide) e)
      have hcell8 := (K8.cell (lt_of_cell ((k7.cell (lt_of_cell hcell6) trivial).trans hcell6)) (fun e => by have := hxn b e; omega)).trans ((k7.cell (lt_of_cell hcell6) trivial).trans hcell6)
      have ux : w8.cell? ⟨gxo, 2, none⟩ = some (.slice AX k cX) := cell_of_heap hst2
      have uf : ∀ i, w8.frozen? ⟨gxo, i, none⟩ = false := fun i => frozen_of_heap hst2
      have HR := hid hst1
      clear hst1 hst3 hown8 hgrow8 hat8 hown6 hgrow6 hat6 hX6 hX7 hr hx hrn hxn hR hq hrow KR6 K16 K8 k1 k2 k7 hb4 hb7 h1 hkp hbk
      refine hK _ _ ⟨hgo8, hst2, hcell8⟩ ?_
      clear hK K
      (refine pt_take (v := ?_) (by rfl) (by first | rfl | kernel_rfl) (fun w' hS => ?_) ?_; rotate_left 1; (obtain ⟨hS, hS2, t9⟩ := hS; have u0 : w'.cell? ⟨gxo, 2, none⟩ = some (.slice AX k cX) := cell_of_heap hS2; clear hS2; have t0 : w'.cell? ⟨go, 0, none⟩ = some (.int .i64 kd) := cell_of_heap hS; have t1 : w'.cell? ⟨go, 1, none⟩ = some (.slice A1 one.length c1) := cell_of_heap hS; have t2 : w'.cell? ⟨go, 2, none⟩ = some (.slice (some ⟨b, off, none⟩) many.length d1) := cell_of_heap hS; have t3 : w'.cell? ⟨go, 3, none⟩ = some (.int .i64 n) := cell_of_heap hS; clear hS; go_simp <;> (try with_reducible rfl)); (simp only [Act.put, List.setIfInBounds_toArray, List.set_cons_zero, List.set_cons_succ]))
      refine pt_tail (by rfl) ?_
      go_wp2
      refine NoPanic.normal ?_
      go_wp2
      exact ⟨⟨k + 1, by go_num, by omega, HR⟩, by simp [intOf]; omega⟩
    · obtain rfl : k = many.length := by omega
      have i1 : ¬ ((many.length : Nat) : Int) < (many.length : Int) := by omega
      have HA := hid (And.intro hq (And.intro hR (And.intro hr (And.intro hx (And.intro hrn (And.intro hxn (And.intro hg hkp)))))))
      clear hq hR hr hx hrn hxn hg hkp hgo
      obtain ⟨i22, hi22, hz0, hz1, hz2⟩ := info_parts info22
      obtain ⟨NA, hNA⟩ : ∃ N, N = many.length + 70 := ⟨_, rfl⟩
      have hmk : ∀ (W : World), (Instr.makeSlice 35 (.int .i64 (NA : Int)) (.int .i64 (NA : Int))).run Tryd.prog W = .ok (.slice (some ⟨W.heap.size, 0, none⟩) NA NA) (W.alloc (.cells (madeCells #[.slice none 0 0] NA) 22)) := fun W => by
        have hmk := run_make (P := Tryd.prog) W 35 22 i22 (.slice none 0 0) Tryd.underlying35 hi22 hz0 .i64 .i64 (NA : Int) (NA : Int) (by omega) (by omega) (by rw [hz2]; omega) (by omega)
        simp only [hz1, Nat.mul_one, Int.toNat_natCast, show (Value.slice none 0 0).cells = #[.slice none 0 0] from rfl] at hmk
        exact hmk
      have b1 : IntKind.i64.wrap ((many.length : Int) + 70) = (NA : Int) := by rw [IntKind.wrap_i64]; omega
      have hmw := hmk wr
      obtain ⟨W4, hW4⟩ : ∃ W, W = wr.alloc (.cells (madeCells #[.slice none 0 0] NA) 22) := ⟨_, rfl⟩
      rw [← hW4] at hmw
      obtain ⟨ga, hga⟩ : ∃ ga, ga = wr.heap.size := ⟨_, rfl⟩
      rw [← hga] at hmw
      have k4 : Old wr W4 := by rw [hW4]; exact (Keeps.refl _ _).alloc _
      have hra : Row1 W4 22 ga NA [] := by
        rw [hW4, hga]
        exact ⟨_, heap_alloc_new _ _, by simp [madeCells], by simp, by simp⟩
      have hNA2 : NA ≤ 1048646 := by omega
      have imn : (many.length : Int) ≤ (NA : Int) := by omega
      have HNA := hid hNA
      clear hNA hmk hz0 hz1 hz2 hi22
      go_upto_region 11 with fail
      rw [← hW4, ← hga]
      have HGA := hid hga
      have HGW := hid (show W4.heap.size = ga + 1 from by rw [hW4, hga]; simp)
      clear hga hW4 b1 hmw
      obtain ⟨hq, hR, hr, hx, hrn, hxn, hg, hkp⟩ := HA.out
      rw [List.take_length] at hq
      have hql : q.length = many.length := by rw [← hq]; simp
      have hgo4 := k4.heap (hkp.heap H3.out.2.1 (show go ≠ gxo by omega)) trivial
      have hx4 := own_keeps hx k4 (fun _ _ => trivial)
      have hg4 := k4.heap hg trivial
      have HS := hid (show InHand2 W4 ga NA q.length q 0 W4 from ⟨[], rfl, hra, fun _ _ h => by omega, fun _ _ h => by omega, Keeps.refl _ _⟩)
      have HB2 := hid (And.intro hgo4 (And.intro hx4 (And.intro hg4 k4)))
      have hgaw : ga < W4.heap.size := hra.lt
      have HQL := hid hql
      have hxb : ∀ i, (Value.slice AX many.length cX).ownBlock = some i → i < ga := fun i hi => by have := own_lt hx hi; have := HGA.out; omega
      have hgg : go ≠ ga ∧ gxo ≠ ga ∧ gr ≠ ga := by have := HGA.out; have h3 := hkp.size; exact ⟨by omega, by omega, by omega⟩
      clear hq hR hr hx hrn hxn hg hkp hra k4 hgo4 hx4 hg4 hql
      go_wp2
      go_loopw [13] (fun i wr2 => ∃ k : Nat, i = .int .i64 k ∧ k ≤ NA ∧ Hid (InHand2 W4 ga NA q.length q k wr2)) (fun i _ => NA - (intOf i).toNat)
      case atStart => exact ⟨0, rfl, Nat.zero_le _, HS⟩
      case round =>
        clear HS
        obtain ⟨k, rfl, hk2, hin⟩ := hrel
        have i2 : (0 : Int) ≤ (k : Int) := by omega
        have hin2 := hin.out
        obtain ⟨vals, hvl, hrw, hv1, hv2, hkk⟩ := hin2
        have hgo := hkk.heap HB2.out.1 hgg.1
        have hg5 := hkk.heap HB2.out.2.2.1 hgg.2.1
        have y2 : wr.cell? ⟨go, 2, none⟩ = some (.slice B1 many.length d1) := cell_of_heap hgo
        have yx : wr.cell? ⟨gxo, 2, none⟩ = some (.slice AX many.length cX) := cell_of_heap hg5
        by_cases hlt : k < NA
        · have i3 : (k : Int) < (NA : Int) := by omega
          obtain ⟨bt, hbt⟩ : ∃ bt, bt = (7 + k) % 256 := ⟨_, rfl⟩
          have b1 : IntKind.i64.wrap (7 + (k : Int)) = 7 + (k : Int) := by rw [IntKind.wrap_i64]; omega
          have b2 : IntKind.u8.wrap (7 + (k : Int)) = (bt : Int) := by rw [IntKind.wrap_u8]; omega
          obtain ⟨u, hu⟩ := hrw.some_ (i := k) hlt
          have hf := hrw.frozen
          have HBT := hid hbt
          clear hbt
          have ka : Old wr (wr.alloc (.cells #[.int .u8 (bt : Int)] 5)) := (Keeps.refl _ _).alloc _
          have hu2 : (wr.alloc (.cells #[.int .u8 (bt : Int)] 5)).cell? ⟨ga, k, none⟩ = some u := (ka.cell (lt_of_cell hu) trivial).trans hu
          have hf2 := (hrw.keep ka trivial).frozen
          have hot := HB2.out
          obtain ⟨W5, hW5⟩ : ∃ W, W = (wr.alloc (.cells #[.int .u8 (bt : Int)] 5)).setCell ⟨ga, k, none⟩ (.slice (some ⟨wr.heap.size, 0, none⟩) 1 1) := ⟨_, rfl⟩
          have k5 : Keeps (· ≠ ga) wr W5 := by rw [hW5]; exact (ka.old _).trans' ((Keeps.refl _ _).setCell (fun _ h => h rfl) _)
          have hr5 := (hrw.keep ka trivial).push (by omega) (.slice (some ⟨wr.heap.size, 0, none⟩) 1 1)
          rw [hvl, ← hW5] at hr5
          obtain ⟨u5, hu5⟩ := hr5.some_ (i := k) hlt
          have hf5 := hr5.frozen
          have y5 : W5.cell? ⟨go, 2, none⟩ = some (.slice B1 many.length d1) := cell_of_heap (k5.heap hgo hgg.1)
          have yx5 : W5.cell? ⟨gxo, 2, none⟩ = some (.slice AX many.length cX) := cell_of_heap (k5.heap hg5 hgg.2.1)
          by_cases hm : k < many.length
          · have i4 : (k : Int) < (many.length : Int) := by omega
            have hqk : k < q.length := by rw [HQL.out]; exact hm
            have hxw := own_keeps HB2.out.2.1 (hkk.trans' k5) (fun i hi => by have := hxb i hi; show i ≠ ga; omega)
            obtain ⟨gX, cX2, hvx, _, _, hcl⟩ := own_cells hxw (by omega)
            injection hvx with hAX _ hcX
            subst hAX hcX
            have cx : W5.cell? ⟨gX, k, none⟩ = some (XV q[k]) := by
              rw [hcl k (by omega), List.getElem?_map, List.getElem?_eq_getElem hqk]
              rfl
            have h2 := InHand2.two (bt := bt) (o := .slice (some ⟨wr.heap.size, 0, none⟩) 1 1) hin.out hgaw hlt hqk
            rw [← hW5] at h2
            have HR := hid h2
            clear hcl hxw hv1 hv2 hrw hkk hin ka h2 k5 hr5 hot
            unfold XV at cx HR
            go_upto_region 15 with fail
            rw [← hW5]
            clear hW5 hu hu2 hf hf2 y2 yx
            go_wp2
            exact ⟨⟨k + 1, by go_num, by omega, HR⟩, by simp [intOf]; omega⟩
          · have i4 : ¬ (k : Int) < (many.length : Int) := by omega
            have h2 := InHand2.one hin.out hgaw hlt (by rw [HQL.out]; omega) HBT.out
            rw [← hW5] at h2
            have HR := hid h2
            clear hv1 hv2 hrw hkk hin ka h2 k5 hr5 hot
            go_upto_region 15 with fail
            rw [← hW5]
            clear hW5 hu hu2 hf hf2 y2 yx
            go_wp2
            exact ⟨⟨k + 1, by go_num, by omega, HR⟩, by simp [intOf]; omega⟩
        · obtain rfl : k = NA := by omega
          have i3 : ¬ ((k : Nat) : Int) < (k : Int) := by omega
          obtain ⟨hq, hR, hr, hx, hrn, hxn, hg, hkp⟩ := HA.out
          rw [List.take_length] at hq
          obtain ⟨hr3, hb3, hx3, K3⟩ := H3.out
          have k4 := HB2.out.2.2.2
          have hgaw' := HGW.out
          have hgae := HGA.out
          have zkp := hkp.size
          obtain ⟨wA, hwA⟩ : ∃ W, W = wr.setCell ⟨gxo, 2, none⟩ (.slice (some ⟨ga, 0, none⟩) many.length k) := ⟨_, rfl⟩
          have kA : Keeps (· ≠ gxo) wr wA := by rw [hwA]; exact (Keeps.refl _ _).setCell (fun _ h => h rfl) _
          have hf5 : ∀ i, wr.frozen? ⟨gxo, i, none⟩ = false := fun i => frozen_of_heap hg5
          have KB : Keeps (fun i => i ≠ gxo ∧ i ≠ ga) W3 wA := (((hkp.mono fun i _ h => h.1 : Keeps (fun i => i ≠ gxo ∧ i ≠ ga) W3 _).trans' (k4.old _)).trans' (hkk.mono fun i _ h => h.2)).trans' (kA.mono fun i _ h => h.1)
          have HAA := hid (show HandA W3.heap.size go gxo gr ga nr k kd n (.slice A1 one.length c1) (.slice B1 many.length d1) one many (.slice AR many.length cR) q wA from by
            have kRA : ∀ i, i < ga → i ≠ gxo → Keeps (fun j => j = i) W4 wA := fun i h1 h2 => (hkk.mono fun j _ e => by rw [e]; show i ≠ ga; omega).trans' (kA.mono fun j _ e => by rw [e]; exact h2)
            refine ⟨KB.heap hb3 ⟨by omega, hgg.1⟩, by rw [hwA, heap_setCell hg5]; rfl, hr3.keep KB ⟨by omega, hgg.2.2⟩, ?_, hq, ?_, fun i hi => (hrn i hi).1, ⟨vals, hvl, hrw.keep kA (show ga ≠ gxo by omega), fun i hi => hv1 i hi (by
              have := HQL.out
              have := HNA.out
              omega), fun i hm hi => ?_⟩, hob.2.1, hob.2.2.1, hob.2.2.2, by omega⟩
            · refine ⟨fun y hy => ((hR.row y hy).keep k4 trivial).keep (kRA y.2 (by have := hR.lt y hy; omega) (by have := hR.new y hy; omega)) rfl, hR.new, hR.dis⟩
            · refine own_keeps (own_keeps hr k4 (fun _ _ => trivial)) ((hkk.mono fun j _ h => h.1).trans' (kA.mono fun j _ h => h.2) : Keeps (fun j => j ≠ ga ∧ j ≠ gxo) W4 wA) fun i hi => ⟨by have := own_lt hr hi; omega, by have := (hrn i hi).1; omega⟩
            · obtain ⟨v, e, h, e', hh, hn⟩ := hv2 i (by rw [HQL.out]; exact hm) hi
              exact ⟨v, e, h, e', kA.heap hh (show h ≠ gxo by omega), by omega⟩)
          have HOA := hid (show Old w wA from K3.trans KB fun i hi _ => ⟨by omega, by omega⟩)
          have HGE := hid (And.intro hob hgo)
          clear hin hvl hrw hv1 hv2 hkk hgo hg5 hq hR hr hx hrn hxn hg hkp hr3 hb3 hx3 K3 k4 hgaw' hgae zkp kA KB
          go_upto_region 17 with fail
          go_cut [] (fun wx => wx = wA)
          case first =>
            go_wp2
            rw [← hwA]
            go_meet
            exact rfl
          case rest =>
          subst hcut
          apply_assumption
          obtain ⟨hB, hP, hHR, h7, h8, hS, hT, hH0, hR0⟩ := HX.out
          exact handed_18 w _ R H S pb N Z p o kd n A1 B1 c1 d1 one many hB hP hHR h7 h8 hS hn0 hn1 hT hH0 hR0 hw hN hZ hone hmany hall _ go gxo gr ga nr _ cR AR q HAA.out HOA.out hob.1 HNR.out HNA.out _ (by kernel_rfl) _ _ _ _ _ _ _ _ _ _ _ _ _ _ _ _ _ _ _ _ _ _ _ _ _ _ _ _ _ _ _ _ _ _ _ _ _ _ _ _ _ _ _ _ _ _ _ _ _ _ _ _ _ _ _ _ _ _ _ _ _ _ _ _ _ _ _ _ _ _ _ _ _ _ _ _ _ _ _ _ _ _ _ _ _ _ _ _ _ _ _ _ _ _ _ _ _ _ _ _ _ _ _ _ _ _ _ _ _ _ _ _ _ _ _ _ _ _ _ _ _ _ _ _ _ _ _ _ _ _ _ _ _ _ _ _ _ _ _ _ _ _ _ _ _ _ _ _ _ _ _ _ _ _ _ _ _ _ _ _ _ _ _ _ _ _ _ _ _ _ _ _ _ _ _ _ _ _ _ _ _ _ _ _ _ _ _ _ _ _ _ _ _ _ _ _ _ _ _ _ _ _ _ _ _ _ _ _ _ _ _ _ _ _ _ _ _ _ _ _ _ _ _ _ _ _ _ _ _ _ _ _ _ _ _
end Go.Proofs.YtdpaaoeipconcaaDoor
