/- weftlaw12.JournalDamage: one byte of a synced disk is another one: it is told. Conditions: the script can be read, the table lies. -/
import Derived.Test.YtdpaaoeipconcaaDoorJDamage
namespace Go.Proofs.YtdpaaoeipconcaaDoor
open Go.RowKit

theorem dmg_open {j : Jn} {R : Recs} (hL : LogOK j R) (hw : j.ws = []) : ∃ j', openJ (j.dA, j.dB) = some (j', R) := by
  have h := hL.cur
  rw [hw] at h
  exact ⟨_, open_cur h⟩
theorem dmg_areas {j : Jn} (h : DmgJ j) (hw : j.ws = []) : Solid j.dA ∧ (j.dB = [] ∨ Solid j.dB) := by
  have h0 := h.solid 0 (by omega)
  have h1 := h.solid 1 (by omega)
  rw [hw] at h0 h1
  refine ⟨?_, ?_⟩
  · rcases h0 with ⟨h, _⟩ | h
    · omega
    · exact h
  · rcases h1 with ⟨_, h⟩ | h
    · exact .inl h
    · exact .inr h

set_option maxRecDepth 10000 in
set_option maxHeartbeats 8000000 in
theorem damage_yes (w : World) (S : Nat → Prop) (C : Option Addr) (cc : Nat) (l : List OpJ) (hO : Ops S w C l) (hS : ∀ k, S k → k < w.heap.size) (hT : Tab w) (second : Bool) (an : Nat) (m : UInt8) (hm : m ≠ 0) :
    Calls Tryd.prog 13 #[.slice C l.length cc, .bool second, .int .i64 (an : Int), .int .u8 (m.toNat : Int)] w fun e w' => e = .returned (.bool true) ∧ Old w w' := by
  have hm0 : ((m.toNat : Int) == 0) = false := by
    rw [beq_eq_false_iff_ne]
    intro e
    exact hm (UInt8.toNat_inj.1 (by simp; omega))
  have hpos := hT.pos
  have HX := hid (fun (a : UInt8) => xor_ne (a := a) hm)
  have hwr0 := fun W (hW : Old w W) => written_any W S C cc l (hO.keep (hW.old _)) (fun k hk => by have := hS k hk; have := hW.size; omega) (hT.keep (hW.old (fun _ => True)) trivial)
  have HWR := hid hwr0
  clear hwr0 hm
  go_enter Tryd.func13, Tryd.ntmps13
  go_wp2_with fail
  refine (first_any w hT).mono ?_
  rintro e w1 ⟨rfl, k1⟩
  have z1 := k1.size
  go_upto_region 3 with fail
  go_wp2_with fail
  refine (HWR.out w1 k1).mono ?_
  rintro e w2 ⟨j, R, vA, vB, AR, cR, rfl, hA, hB, hAB, hcR, hR, hws, hdm, hlog, hla, hlb, k2⟩
  clear HWR
  have z2 := k2.size
  obtain ⟨hsA, hsB⟩ := dmg_areas hdm hws
  obtain ⟨jo, hop⟩ := dmg_open hlog hws
  have hRl : R.length ≤ 281474976710656 := hR.1
  have hAl := hsA.len
  clear hdm hlog hws hm0
  obtain ⟨xs, hxs⟩ : ∃ xs, xs = j.dA := ⟨_, rfl⟩
  obtain ⟨ys, hys⟩ : ∃ ys, ys = j.dB := ⟨_, rfl⟩
  rw [← hxs] at hA hsA hop hla hAl
  rw [← hys] at hB hsB hop hlb
  clear hxs hys
  obtain ⟨AA, cA, hvA, hcA, _⟩ := hA.slice
  obtain ⟨AB, cB, hvB, hcB, _⟩ := hB.slice
  subst hvA hvB
  obtain ⟨W3, hW3⟩ : ∃ W, W = w2.alloc (.cells #[.slice AA xs.length cA, .slice AB ys.length cB] 24) := ⟨_, rfl⟩
  have hb3 : W3.heap[w2.heap.size]? = some (.cells #[.slice AA xs.length cA, .slice AB ys.length cB] 24 (0, 0)) := by rw [hW3]; exact heap_alloc_new _ _
  have k3 : Old w2 W3 := by rw [hW3]; exact (Keeps.refl _ _).alloc _
  have K3 := (k1.trans' k2).trans' k3
  have hA3 := hA.keep (k3.old _)
  have hB3 := hB.keep (k3.old _)
  have hR3 := hR.keep (k3.old _)
  have d0 : W3.cell? ⟨w2.heap.size, 0, none⟩ = some (.slice AA xs.length cA) := cell_of_heap hb3
  have d1 : W3.cell? ⟨w2.heap.size, 1, none⟩ = some (.slice AB ys.length cB) := cell_of_heap hb3
  have ho := lopen_any W3 (fun _ => True) AA AB xs.length ys.length cA cB xs ys (hA3.bts.mono' fun _ _ => trivial) (hB3.bts.mono' fun _ _ => trivial) rfl rfl hcA hcB (hT.keep (K3.old (fun _ => True)) trivial)
  rw [hop] at ho
  clear hop hA hB hR
  go_upto_region 4 with fail
  rw [← hW3]
  clear hW3
  go_wp2_with fail
  refine ho.mono ?_
  rintro e w4 ⟨F4, g4, a4, b4, p4, q4, L4, ql, rfl, hL4, hF4, hq4, hO4, k4⟩
  clear ho hL4 hF4
  have hqn : ql.length = R.length := by rw [← hq4]; simp
  obtain ⟨A4, c4, hL4', hc4, hR4⟩ := hO4.rcs (by omega)
  subst hL4'
  rw [hqn] at hc4 ⊢
  rw [hq4] at hR4
  have hli := lists_any w4 _ _ A4 AR c4 cR R R hR4 (hR3.keep (k4.old _))
  rw [decide_eq_true rfl] at hli
  clear hqn hq4 hO4 hR4 hR3
  go_wp2_with fail
  refine hli.mono ?_
  rintro e w5 ⟨rfl, n5, hw5⟩
  clear hli
  have k45 : Old w4 w5 := by rw [← hw5]; exact (Keeps.refl _ _).drewN _
  clear hw5
  have k5 := k4.trans' k45
  have K5 := K3.trans' k5
  clear k4 k45
  have e0 : w5.cell? ⟨w2.heap.size, 0, none⟩ = some (.slice AA xs.length cA) := (k5.cell (p := ⟨w2.heap.size, 0, none⟩) (lt_of_cell d0) trivial).trans d0
  have e1 : w5.cell? ⟨w2.heap.size, 1, none⟩ = some (.slice AB ys.length cB) := (k5.cell (p := ⟨w2.heap.size, 1, none⟩) (lt_of_cell d1) trivial).trans d1
  clear d0 d1 hb3
  have hA5 := hA3.keep (k5.old _)
  have hB5 := hB3.keep (k5.old _)
  clear hA3 hB3
  go_upto_region 7 with fail
  refine wp_region_tree (fun w' => w'.cell? ⟨w2.heap.size, 0, none⟩ = some (.slice AA xs.length cA) ∧ w'.cell? ⟨w2.heap.size, 1, none⟩ = some (.slice AB ys.length cB)) 8
    (.take 0 (.take 1 (.take 3 (.take 4 (.one 2 (.one 5 (.take 6 (.take 7 .tail)))))))) (by kernel_rfl) (by kernel_rfl) ⟨e0, e1⟩ ?_
  iterate 4 (refine pt_take (v := ?_) (by rfl) (by first | rfl | kernel_rfl) (fun w' hS => ?_) ?_; rotate_left 1; (obtain ⟨s0, s1⟩ := hS; go_simp <;> (try with_reducible rfl)); (simp only [Act.put, List.setIfInBounds_toArray, List.set_cons_zero, List.set_cons_succ]))
  refine pt_one (by rfl) (loudly_of (by first | rfl | kernel_rfl) (fun K hK => ?_))
  have hca := clone44_any w5.drew _ AA xs.length cA xs (hA5.keep (Keeps.refl _ _).drew).bts rfl (by omega)
  go_wp2_with (go_at_call 44; refine hca.mono ?_)
  rintro e w6 ⟨vx, rfl, hvx, k6⟩
  clear hca
  replace k6 := k6.ofDrew
  obtain ⟨Ax, cx, hvx', hcx, _⟩ := hvx.slice
  subst hvx'
  refine hK _ _ ⟨(k6.cell (p := ⟨w2.heap.size, 0, none⟩) (lt_of_cell e0) trivial).trans e0, (k6.cell (p := ⟨w2.heap.size, 1, none⟩) (lt_of_cell e1) trivial).trans e1⟩ ?_
  clear hK K
  refine pt_one (by rfl) (loudly_of (by first | rfl | kernel_rfl) (fun K hK => ?_))
  have hcb := clone44_any w6 _ AB ys.length cB ys (hB5.keep (k6.old _)).bts rfl (by omega)
  go_wp2_with (go_at_call 44; refine hcb.mono ?_)
  rintro e w7 ⟨vy, rfl, hvy, k7⟩
  clear hcb
  obtain ⟨Ay, cy, hvy', hcy, _⟩ := hvy.slice
  subst hvy'
  have k67 := k6.trans' k7
  refine hK _ _ ⟨(k67.cell (p := ⟨w2.heap.size, 0, none⟩) (lt_of_cell e0) trivial).trans e0, (k67.cell (p := ⟨w2.heap.size, 1, none⟩) (lt_of_cell e1) trivial).trans e1⟩ ?_
  clear hK K e0 e1
  iterate 2 (refine pt_take (v := ?_) (by rfl) (by first | rfl | kernel_rfl) (fun w' hS => ?_) ?_; rotate_left 1; (go_simp <;> (try with_reducible rfl)); (simp only [Act.put, List.setIfInBounds_toArray, List.set_cons_zero, List.set_cons_succ]))
  refine pt_tail (by rfl) ?_
  go_wp2
  refine NoPanic.normal ?_
  have K7 := K5.trans' k67
  have hx7 := hvx.keep (k7.old _)
  have z6 := k6.size
  have z7 := k7.size
  have z5 := K5.size
  have hxy : ∀ k, (w6.heap.size ≤ k) → (Value.slice Ax xs.length cx).ownBlock ≠ some k := fun k hk e => by have := own_lt hvx.row e; omega
  have k6s := k6.size
  clear hvx hA5 hB5 K5 K3 k5 k6 k67 k1 k2 k3
  have hT7 := hT.keep (K7.old (fun _ => True)) trivial
  have i0 : (0 : Int) ≤ (an : Int) := by omega
  have z56 : w5.heap.size ≤ w6.heap.size := k6s
  cases second with
  | false =>
    obtain ⟨kn, hkn⟩ : ∃ kn, kn = an % xs.length := ⟨_, rfl⟩
    have hkl : kn < xs.length := by rw [hkn]; exact Nat.mod_lt _ (by omega)
    have j9 : (an : Int) % (xs.length : Int) = (kn : Int) := by rw [hkn]; exact (Int.natCast_emod an _).symm
    have j9t : (an : Int).tmod (xs.length : Int) = (kn : Int) := by rw [hkn]; exact (Int.ofNat_tmod an _).symm
    have i1 : ¬ (xs.length : Int) < 16 := by omega
    have i2 : ¬ (xs.length : Int) = 0 := by omega
    have i3 : xs.length ≠ 0 := by omega
    have i4 : (kn : Int) < (xs.length : Int) := by omega
    have i5 : (0 : Int) ≤ (kn : Int) := by omega
    obtain ⟨bb, cap, hbv, hbb, hbc, hbx, hbf⟩ := hx7.block_ hkl
    injection hbv with hv1 _ hv3
    subst hv1 hv3
    obtain ⟨y, hy⟩ : ∃ y, y = xs[kn] ^^^ m := ⟨_, rfl⟩
    have hyn : y ≠ xs.getD kn 0 := by rw [hy, List.getD_eq_getElem?_getD, List.getElem?_eq_getElem hkl]; exact HX.out _
    have HNN := hid (show openJ ((xs.set kn y), ys) = none from open_none (.inl (hsA.told hkl hyn)))
    clear hkn
    go_upto_region 14 with fail
    refine wp_region_tree (fun w' => w'.cell? ⟨bb, kn, none⟩ = some (bv xs[kn])) 15
      (.take 0 (.take 1 (.take 2 (.take 3 (.take 4 (.take 5 (.take 6 (.take 7 (.take 8 (.take 9 (.take 10 (.take 11 (.take 12 (.take 13 (.take 14 .tail))))))))))))))) (by kernel_rfl) (by kernel_rfl) hbx ?_
    iterate 4 (refine pt_take (v := ?_) (by rfl) (by first | rfl | kernel_rfl) (fun w' hS => ?_) ?_; rotate_left 1; (go_simp <;> (try with_reducible rfl)); (simp only [Act.put, List.setIfInBounds_toArray, List.set_cons_zero, List.set_cons_succ]))
    (refine pt_take (v := .int .i64 (kn : Int)) (by rfl) (by first | rfl | kernel_rfl) (fun w' hS => ?_) ?_; (go_simp <;> (try with_reducible rfl)); (simp only [Act.put, List.setIfInBounds_toArray, List.set_cons_zero, List.set_cons_succ]))
    iterate 4 (refine pt_take (v := ?_) (by rfl) (by first | rfl | kernel_rfl) (fun w' hS => ?_) ?_; rotate_left 1; (go_simp <;> (try with_reducible rfl)); (simp only [Act.put, List.setIfInBounds_toArray, List.set_cons_zero, List.set_cons_succ]))
    (refine pt_take (v := .int .i64 (kn : Int)) (by rfl) (by first | rfl | kernel_rfl) (fun w' hS => ?_) ?_; (go_simp <;> (try with_reducible rfl)); (simp only [Act.put, List.setIfInBounds_toArray, List.set_cons_zero, List.set_cons_succ]))
    iterate 5 (refine pt_take (v := ?_) (by rfl) (by first | rfl | kernel_rfl) (fun w' hS => ?_) ?_; rotate_left 1; (go_simp <;> (try with_reducible rfl)); (simp only [Act.put, List.setIfInBounds_toArray, List.set_cons_zero, List.set_cons_succ]))
    rw [xor_u8, ← hy]
    clear hyn hy
    refine pt_tail (by rfl) ?_
    go_wp2
    obtain ⟨W8, hW8⟩ : ∃ W, W = (w7.setCell ⟨bb, kn, none⟩ (.int .u8 (y.toNat : Int))).drew := ⟨_, rfl⟩
    have k8 : Keeps (· ≠ bb) w7 W8 := by rw [hW8]; exact ((Keeps.refl _ _).setCell (fun _ h => h rfl) _).drew
    have hn8 := (hx7.set_ hkl y).keep (Keeps.refl _ _).drew
    rw [show (w7.setCell ⟨bb, kn, none⟩ (bv y)).drew = W8 from hW8.symm, show xs.length = (xs.set kn y).length by simp] at hn8
    have hf8 := hn8.bts
    have hs8 := (hvy.keep (k8.mono fun k _ hk e => hxy k hk (by rw [e]; rfl))).bts
    have hbl : w.heap.size ≤ bb := by have h' := hbb; have h2 : w5.heap.size ≤ bb := h'; omega
    have K8 := K7.trans k8 fun k hk _ => by show k ≠ bb; omega
    have ho := lopen_any W8 (fun _ => True) (some ⟨bb, 0, none⟩) Ay xs.length ys.length cx cy (xs.set kn y) ys (hf8.mono' fun _ _ => trivial) (hs8.mono' fun _ _ => trivial) (by simp) (by simp) hcx hcy (hT.keep (K8.old (fun _ => True)) trivial)
    rw [HNN.out] at ho
    rw [← hW8]
    clear hW8 hn8 hf8 hs8 k8
    refine NoPanic.normal ?_
    go_wp2_with fail
    refine ho.mono ?_
    rintro e w9 ⟨rfl, k9⟩
    clear ho
    go_wp2
    go_ret
    exact ⟨rfl, K8.trans' k9⟩
  | true =>
    rcases hsB with hsB | hsB
    · subst hsB
      go_wp2
      go_ret
      exact ⟨rfl, K7⟩
    · have hBl := hsB.len
      have hx7' := hx7.own_
      obtain ⟨kn, hkn⟩ : ∃ kn, kn = an % ys.length := ⟨_, rfl⟩
      have hkl : kn < ys.length := by rw [hkn]; exact Nat.mod_lt _ (by omega)
      have j9 : (an : Int) % (ys.length : Int) = (kn : Int) := by rw [hkn]; exact (Int.natCast_emod an _).symm
      have j9t : (an : Int).tmod (ys.length : Int) = (kn : Int) := by rw [hkn]; exact (Int.ofNat_tmod an _).symm
      have i1 : ¬ (ys.length : Int) < 16 := by omega
      have i2 : ¬ (ys.length : Int) = 0 := by omega
      have i3 : ys.length ≠ 0 := by omega
      have i4 : (kn : Int) < (ys.length : Int) := by omega
      have i5 : (0 : Int) ≤ (kn : Int) := by omega
      obtain ⟨bb, cap, hbv, hbb, hbc, hbx, hbf⟩ := hvy.block_ hkl
      injection hbv with hv1 _ hv3
      subst hv1 hv3
      obtain ⟨y, hy⟩ : ∃ y, y = ys[kn] ^^^ m := ⟨_, rfl⟩
      have hyn : y ≠ ys.getD kn 0 := by rw [hy, List.getD_eq_getElem?_getD, List.getElem?_eq_getElem hkl]; exact HX.out _
      have HNN := hid (show openJ (xs, (ys.set kn y)) = none from open_none (.inr (hsB.told hkl hyn)))
      clear hkn
      go_upto_region 11 with fail
      refine wp_region_tree (fun w' => w'.cell? ⟨bb, kn, none⟩ = some (bv ys[kn])) 15
        (.take 0 (.take 1 (.take 2 (.take 3 (.take 4 (.take 5 (.take 6 (.take 7 (.take 8 (.take 9 (.take 10 (.take 11 (.take 12 (.take 13 (.take 14 .tail))))))))))))))) (by kernel_rfl) (by kernel_rfl) hbx ?_
      iterate 4 (refine pt_take (v := ?_) (by rfl) (by first | rfl | kernel_rfl) (fun w' hS => ?_) ?_; rotate_left 1; (go_simp <;> (try with_reducible rfl)); (simp only [Act.put, List.setIfInBounds_toArray, List.set_cons_zero, List.set_cons_succ]))
      (refine pt_take (v := .int .i64 (kn : Int)) (by rfl) (by first | rfl | kernel_rfl) (fun w' hS => ?_) ?_; (go_simp <;> (try with_reducible rfl)); (simp only [Act.put, List.setIfInBounds_toArray, List.set_cons_zero, List.set_cons_succ]))
      iterate 4 (refine pt_take (v := ?_) (by rfl) (by first | rfl | kernel_rfl) (fun w' hS => ?_) ?_; rotate_left 1; (go_simp <;> (try with_reducible rfl)); (simp only [Act.put, List.setIfInBounds_toArray, List.set_cons_zero, List.set_cons_succ]))
      (refine pt_take (v := .int .i64 (kn : Int)) (by rfl) (by first | rfl | kernel_rfl) (fun w' hS => ?_) ?_; (go_simp <;> (try with_reducible rfl)); (simp only [Act.put, List.setIfInBounds_toArray, List.set_cons_zero, List.set_cons_succ]))
      iterate 5 (refine pt_take (v := ?_) (by rfl) (by first | rfl | kernel_rfl) (fun w' hS => ?_) ?_; rotate_left 1; (go_simp <;> (try with_reducible rfl)); (simp only [Act.put, List.setIfInBounds_toArray, List.set_cons_zero, List.set_cons_succ]))
      rw [xor_u8, ← hy]
      clear hyn hy
      refine pt_tail (by rfl) ?_
      go_wp2
      obtain ⟨W8, hW8⟩ : ∃ W, W = (w7.setCell ⟨bb, kn, none⟩ (.int .u8 (y.toNat : Int))).drew := ⟨_, rfl⟩
      have k8 : Keeps (· ≠ bb) w7 W8 := by rw [hW8]; exact ((Keeps.refl _ _).setCell (fun _ h => h rfl) _).drew
      have hn8 := (hvy.set_ hkl y).keep (Keeps.refl _ _).drew
      rw [show (w7.setCell ⟨bb, kn, none⟩ (bv y)).drew = W8 from hW8.symm, show ys.length = (ys.set kn y).length by simp] at hn8
      have hs8 := hn8.bts
      have hf8 := (hx7'.keep (k8.mono fun k _ hk e => hxy bb hbb (by rw [← e]; exact hk))).bts
      have hbl : w.heap.size ≤ bb := by have h' := hbb; have h2 : w6.heap.size ≤ bb := h'; omega
      have K8 := K7.trans k8 fun k hk _ => by show k ≠ bb; omega
      have ho := lopen_any W8 (fun _ => True) Ax (some ⟨bb, 0, none⟩) xs.length ys.length cx cy xs (ys.set kn y) (hf8.mono' fun _ _ => trivial) (hs8.mono' fun _ _ => trivial) (by simp) (by simp) hcx hcy (hT.keep (K8.old (fun _ => True)) trivial)
      rw [HNN.out] at ho
      rw [← hW8]
      clear hW8 hn8 hf8 hs8 k8
      refine NoPanic.normal ?_
      go_wp2_with fail
      refine ho.mono ?_
      rintro e w9 ⟨rfl, k9⟩
      clear ho
      go_wp2
      go_ret
      exact ⟨rfl, K8.trans' k9⟩


set_option maxRecDepth 10000 in
set_option maxHeartbeats 2000000 in
theorem damage_any (w : World) (S : Nat → Prop) (C : Option Addr) (cc : Nat) (l : List OpJ) (hO : Ops S w C l) (hS : ∀ k, S k → k < w.heap.size) (hT : Tab w) (second : Bool) (at_ : Int) (m : Nat) (hm : (m : Int) ≤ 255) :
    Calls Tryd.prog 13 #[.slice C l.length cc, .bool second, .int .i64 at_, .int .u8 (m : Int)] w fun e w' => e = .returned (.bool true) ∧ Old w w' := by
  have hfi := first_any w hT
  have hfi2 := hid (fun W (hW : Old w W) => first_any W (hT.keep (hW.old (fun _ => True)) trivial))
  by_cases h1 : at_ < 0
  · go_enter Tryd.func13, Tryd.ntmps13
    go_wp2_with fail
    refine hfi.mono ?_
    rintro e w1 ⟨rfl, k1⟩
    go_wp2_with fail
    refine (hfi2.out w1 k1).mono ?_
    rintro e w2 ⟨rfl, k2⟩
    go_wp2
    go_ret
    exact ⟨rfl, k1.trans' k2⟩
  by_cases h2 : m = 0
  · subst h2
    go_enter Tryd.func13, Tryd.ntmps13
    go_wp2_with fail
    refine hfi.mono ?_
    rintro e w1 ⟨rfl, k1⟩
    go_wp2_with fail
    refine (hfi2.out w1 k1).mono ?_
    rintro e w2 ⟨rfl, k2⟩
    go_wp2
    go_ret
    exact ⟨rfl, k1.trans' k2⟩
  · obtain ⟨an, rfl⟩ := Int.eq_ofNat_of_zero_le (show 0 ≤ at_ by omega)
    have hmt : (UInt8.ofNat m).toNat = m := UInt8.toNat_ofNat_of_lt' (by simp [UInt8.size]; omega)
    have h := damage_yes w S C cc l hO hS hT second an (UInt8.ofNat m) (fun e => h2 (by rw [← hmt, e]; rfl))
    rw [hmt] at h
    exact h

end Go.Proofs.YtdpaaoeipconcaaDoor

