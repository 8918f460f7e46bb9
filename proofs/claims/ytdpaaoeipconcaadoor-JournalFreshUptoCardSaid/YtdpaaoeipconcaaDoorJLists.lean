/- weftlaw12.lists, disks; weftref12.copied; journal.Log.Crash's own parts: lists of records compared; a disk of its own. Conditions: the lists can be read. -/
import Derived.Test.YtdpaaoeipconcaaDoorJNets
import Derived.Test.YtdpaaoeipconcaaDoorJQuiet
namespace Go.Proofs.YtdpaaoeipconcaaDoor
open Go.RowKit

theorem same_q {w : World} {S T : Nat → Prop} {A B : Option Addr} {c d n m k : Nat} {xs ys : List UInt8} (ha : Bts S w A xs) (hb : Bts T w B ys) (hn : n = xs.length) (hm : m = ys.length) :
    Calls Tryd.prog 48 #[.slice A n c, .slice B m d] (w.drewN k) fun e w' => e = .returned (.bool (decide (xs = ys))) ∧ ∃ k, w' = w.drewN k := by
  subst hn hm
  exact (same_any (w.drewN k) S T A B c d xs ys (ha.keep ((Keeps.refl _ _).drewN _)) (hb.keep ((Keeps.refl _ _).drewN _))).mono fun _ _ ⟨h, j, hj⟩ => ⟨h, k + j, by rw [← hj, World.drewN_drewN]⟩

set_option maxHeartbeats 2000000 in
theorem lists_any (w : World) (S T : Nat → Prop) (A B : Option Addr) (c d : Nat) (xs ys : List (List UInt8)) (ha : Rcs S w A xs) (hb : Rcs T w B ys) :
    Calls Tryd.prog 33 #[.slice A xs.length c, .slice B ys.length d] w (PostSame w (decide (xs = ys))) := by
  have hal := ha.1
  have hbl := hb.1
  by_cases hlen : xs.length = ys.length
  · have hne : ((xs.length : Int) == (ys.length : Int)) = true := by simp [hlen]
    have hne' : ((xs.length : Int) != (ys.length : Int)) = false := by simp [hlen]
    have HL := hid hlen; clear hlen
    go_enter Tryd.func33, Tryd.ntmps33
    go_wp2
    go_loopw [5] (fun i wr => ∃ k n : Nat, i = .int .i64 k ∧ k ≤ xs.length ∧ Hid (xs.take k = ys.take k) ∧ Hid (w.drewN n = wr)) (fun i _ => xs.length - (intOf i).toNat)
    case atStart => exact ⟨0, 0, rfl, Nat.zero_le _, hid (by simp), hid rfl⟩
    case round =>
      obtain ⟨k, n, rfl, hk, hT, hW⟩ := hrel
      have K : Old w wr := by rw [← hW.out]; exact (Keeps.refl _ _).drewN _
      by_cases hlt : k < xs.length
      · have hltb : k < ys.length := by have := HL.out; omega
        obtain ⟨b1, o1, A1, c1, rfl, _, h1, _, g1⟩ := (ha.keep (K.old _)).at_ hlt
        obtain ⟨b2, o2, A2, c2, rfl, _, h2, _, g2⟩ := (hb.keep (K.old _)).at_ hltb
        have i1 : (0 : Int) ≤ (k : Int) := by omega
        have i2 : (k : Int) < (xs.length : Int) := by omega
        have i3 : (k : Int) < (ys.length : Int) := by omega
        have hsm : ∀ m, Calls Tryd.prog 48 #[.slice A1 xs[k].length c1, .slice A2 ys[k].length c2] (wr.drewN m) fun e w' => e = .returned (.bool (decide (xs[k] = ys[k]))) ∧ ∃ k, w' = wr.drewN k := fun m => same_q g1 g2 rfl rfl
        by_cases he : xs[k] = ys[k]
        · have HT2 := hid (take_eq_step hT.out hlt hltb he)
          simp only [decide_eq_true he] at hsm
          clear he
          generalize xs[k] = x at *
          generalize ys[k] = y at *
          go_wp2
          go_quiet (first | (go_at_call 48; exact hsm _))
          go_wp2
          exact ⟨⟨k + 1, n + nq, by go_num, by omega, HT2, hid (by rw [← hW.out, World.drewN_drewN])⟩, by simp [intOf]; omega⟩
        · simp only [decide_eq_false he] at hsm
          have hne2 : decide (xs = ys) = false := decide_eq_false fun h => he (by subst h; rfl)
          generalize xs[k] = x at *
          generalize ys[k] = y at *
          go_wp2
          go_quiet (first | (go_at_call 48; exact hsm _))
          go_wp2
          go_ret
          refine ⟨by rw [hne2]; rfl, n + nq, ?_⟩
          rw [← hW.out, World.drewN_drewN]
      · go_wp2
        go_ret
        refine ⟨?_, n, hW.out⟩
        have hkl : k = xs.length := by omega
        have hT' := hT.out
        rw [hkl, List.take_length, List.take_of_length_le (by rw [HL.out]; exact Nat.le_refl _)] at hT'
        rw [decide_eq_true hT']
        rfl
  · have hne : ((xs.length : Int) == (ys.length : Int)) = false := by rw [beq_eq_false_iff_ne]; omega
    have hne' : ((xs.length : Int) != (ys.length : Int)) = true := by rw [bne_iff_ne]; omega
    go_enter Tryd.func33, Tryd.ntmps33
    go_wp2
    go_ret
    refine ⟨?_, 0, rfl⟩
    rw [decide_eq_false (fun h => hlen (by rw [h]))]
    rfl

/-- A disk of one's own. -/
def PostDisk (w : World) (d : Dk) (e : Ending) (w' : World) : Prop :=
  ∃ vA vB, e = .returned (.agg #[vA, vB]) ∧ OwnB (fun k => w.heap.size ≤ k) w' vA d.1 ∧ OwnB (fun k => w.heap.size ≤ k) w' vB d.2 ∧ (∀ k, vA.ownBlock = some k → vB.ownBlock ≠ some k) ∧ Old w w'

set_option maxHeartbeats 2000000 in
theorem copied_any (w : World) (S T : Nat → Prop) (A B : Option Addr) (n m c d : Nat) (xs ys : List UInt8) (ha : Bts S w A xs) (hb : Bts T w B ys) (hn : n = xs.length) (hm : m = ys.length) (hx : xs.length ≤ 1048576) (hy : ys.length ≤ 1048576) :
    Calls Tryd.prog 58 #[.agg #[.slice A n c, .slice B m d]] w (PostDisk w (xs, ys)) := by
  obtain ⟨W1, hW1⟩ : ∃ W, W = (w.alloc (.cells #[.slice A n c, .slice B m d] 24)).alloc (.cells #[.slice none 0 0, .slice none 0 0] 24) := ⟨_, rfl⟩
  have k1 : Old w W1 := by rw [hW1]; exact ((Keeps.refl _ _).alloc _).alloc _
  have hb0 : W1.heap[w.heap.size]? = some (.cells #[.slice A n c, .slice B m d] 24 (0, 0)) := by rw [hW1, heap_alloc_old _ _ (by simp)]; exact heap_alloc_new _ _
  have hb1 : W1.heap[w.heap.size + 1]? = some (.cells #[.slice none 0 0, .slice none 0 0] 24 (0, 0)) := by
    rw [hW1]
    have := heap_alloc_new (w.alloc (.cells #[.slice A n c, .slice B m d] 24)) (.cells #[.slice none 0 0, .slice none 0 0] 24)
    simpa using this
  have q0 : W1.cell? ⟨w.heap.size, 0, none⟩ = some (.slice A n c) := cell_of_heap hb0
  have q1 : W1.cell? ⟨w.heap.size, 1, none⟩ = some (.slice B m d) := cell_of_heap hb0
  have HN := hid hn
  have HM := hid hm
  clear hn hm
  go_enter Tryd.func58, Tryd.ntmps58
  go_upto_region 1 with fail
  rw [← hW1]
  have hz1 : W1.heap.size = w.heap.size + 2 := by rw [hW1]; simp
  clear hW1
  refine wp_region_planF (fun w' => w'.cell? ⟨w.heap.size, 0, none⟩ = some (.slice A n c) ∧ w'.cell? ⟨w.heap.size, 1, none⟩ = some (.slice B m d)) 7 [(0, none), (1, none), (3, none), (4, none), (2, some 2), (5, some 5), (6, none)] (by kernel_rfl) (by kernel_rfl) ⟨q0, q1⟩ ?_
  iterate 4 (refine planF_take (v := ?_) (by rfl) (by rfl) (fun w' hS => ?_) ?_; rotate_left 1; (obtain ⟨s0, s1⟩ := hS; go_simp <;> (try with_reducible rfl)); (simp only [Act.put, List.setIfInBounds_toArray, List.set_cons_zero, List.set_cons_succ]))
  have k1d : Old w W1.drew := k1.drew
  refine planF_loud (by rfl) (loudly_of (by rfl) (fun K hK => ?_))
  go_wp2_with (go_at_call 59; refine (join_any W1.drew S S none A 0 n 0 c [] xs (Bts.nil _ _ _) (ha.keep (k1d.old _)) rfl HN.out (by simp; omega)).mono ?_)
  rintro e w2 ⟨vA, rfl, hA, k2⟩
  simp only [List.nil_append] at hA
  obtain ⟨A1, c1, rfl, _, _⟩ := hA.slice
  replace k2 := k2.ofDrew
  refine hK _ _ ⟨(k2.cell (lt_of_cell q0) trivial).trans q0, (k2.cell (lt_of_cell q1) trivial).trans q1⟩ ?_
  clear hK K
  refine planF_loud (by rfl) (loudly_of (by rfl) (fun K hK => ?_))
  go_wp2_with (go_at_call 59; refine (join_any w2 T T none B 0 m 0 d [] ys (Bts.nil _ _ _) (hb.keep ((k1.trans' k2).old _)) rfl HM.out (by simp; omega)).mono ?_)
  rintro e w3 ⟨vB, rfl, hB, k3⟩
  simp only [List.nil_append] at hB
  obtain ⟨B1, c2, rfl, _, _⟩ := hB.slice
  have k23 := k2.trans' k3
  refine hK _ _ ⟨(k23.cell (lt_of_cell q0) trivial).trans q0, (k23.cell (lt_of_cell q1) trivial).trans q1⟩ ?_
  clear hK K
  (refine planF_take (v := ?_) (by rfl) (by rfl) (fun w' hS => ?_) ?_; rotate_left 1; (go_simp <;> (try with_reducible rfl)); (simp only [Act.put, List.setIfInBounds_toArray, List.set_cons_zero, List.set_cons_succ]))
  have hb3 := k23.heap hb1 trivial
  have g0 : w3.cell? ⟨w.heap.size + 1, 0, none⟩ = some (.slice none 0 0) := cell_of_heap hb3
  have g1 : w3.cell? ⟨w.heap.size + 1, 1, none⟩ = some (.slice none 0 0) := cell_of_heap hb3
  have f0 : ∀ j, w3.frozen? ⟨w.heap.size + 1, j, none⟩ = false := fun j => frozen_of_heap hb3
  refine planF_tail (by rfl) ?_
  go_wp2
  refine NoPanic.normal ?_
  go_wp2
  have hbf : ((w3.setCell ⟨w.heap.size + 1, 0, none⟩ (.slice A1 xs.length c1)).setCell ⟨w.heap.size + 1, 1, none⟩ (.slice B1 ys.length c2)).heap[w.heap.size + 1]? = some (.cells #[.slice A1 xs.length c1, .slice B1 ys.length c2] 24 (0, 0)) := by
    rw [heap_setCell (heap_setCell hb3 _)]
    rfl
  have KS : Keeps (· ≠ w.heap.size + 1) w3 ((w3.setCell ⟨w.heap.size + 1, 0, none⟩ (.slice A1 xs.length c1)).setCell ⟨w.heap.size + 1, 1, none⟩ (.slice B1 ys.length c2)) := ((Keeps.refl _ _).setCell (fun _ h => h rfl) _).setCell (fun _ h => h rfl) _
  have d0 := cell_of_heap (i := 0) hbf
  have d1 := cell_of_heap (i := 1) hbf
  have hs2 := k2.size
  refine bodyPost_ret (v := .agg #[.slice A1 xs.length c1, .slice B1 ys.length c2]) (by simp [results, Tryd.results58, go_sem, d0, d1]) rfl ⟨_, _, rfl, ?_, ?_, ?_, ?_⟩
  · refine ((hA.keep (k3.old _)).keep (KS.mono fun k _ h => ?_)).mono fun k _ h => ?_
    · have h' : W1.drew.heap.size ≤ k := h
      simp at h'; show k ≠ w.heap.size + 1; omega
    · have h' : W1.drew.heap.size ≤ k := h
      simp at h'; omega
  · refine (hB.keep (KS.mono fun k _ h => ?_)).mono fun k _ h => ?_
    · have h' : w2.heap.size ≤ k := h
      show k ≠ w.heap.size + 1; omega
    · have h' : w2.heap.size ≤ k := h
      omega
  · intro k h1 h2
    have h1' := own_lt hA.row h1
    have h2' : w2.heap.size ≤ k := hB.foot k h2
    omega
  · exact (k1.trans' k23).trans KS fun k hk _ => by show k ≠ w.heap.size + 1; omega

set_option maxHeartbeats 2000000 in
theorem disks_any (w : World) (S T : Nat → Prop) (A B C D : Option Addr) (n1 n2 m1 m2 c1 c2 d1 d2 : Nat) (x1 x2 y1 y2 : List UInt8) (ha : Bts S w A x1) (hb : Bts S w B x2) (hc : Bts T w C y1) (hd : Bts T w D y2)
    (e1 : n1 = x1.length) (e2 : n2 = x2.length) (e3 : m1 = y1.length) (e4 : m2 = y2.length) :
    Calls Tryd.prog 24 #[.agg #[.slice A n1 c1, .slice B n2 c2], .agg #[.slice C m1 d1, .slice D m2 d2]] w fun e w' => e = .returned (.bool (decide ((x1, x2) = (y1, y2)))) ∧ Old w w' := by
  obtain ⟨W1, hW1⟩ : ∃ W, W = (w.alloc (.cells #[.slice A n1 c1, .slice B n2 c2] 24)).alloc (.cells #[.slice C m1 d1, .slice D m2 d2] 24) := ⟨_, rfl⟩
  have k1 : Old w W1 := by rw [hW1]; exact ((Keeps.refl _ _).alloc _).alloc _
  have hb0 : W1.heap[w.heap.size]? = some (.cells #[.slice A n1 c1, .slice B n2 c2] 24 (0, 0)) := by rw [hW1, heap_alloc_old _ _ (by simp)]; exact heap_alloc_new _ _
  have hb1 : W1.heap[w.heap.size + 1]? = some (.cells #[.slice C m1 d1, .slice D m2 d2] 24 (0, 0)) := by
    rw [hW1]
    have := heap_alloc_new (w.alloc (.cells #[.slice A n1 c1, .slice B n2 c2] 24)) (.cells #[.slice C m1 d1, .slice D m2 d2] 24)
    simpa using this
  have s1 : Calls Tryd.prog 48 #[.slice A n1 c1, .slice C m1 d1] W1 (PostSame W1 (decide (x1 = y1))) := by
    subst e1 e3
    exact same_any W1 S T A C c1 d1 x1 y1 (ha.keep (k1.old _)) (hc.keep (k1.old _))
  have s2 : ∀ W, Old w W → Calls Tryd.prog 48 #[.slice B n2 c2, .slice D m2 d2] W (PostSame W (decide (x2 = y2))) := fun W hW => by
    subst e2 e4
    exact same_any W S T B D c2 d2 x2 y2 (hb.keep (hW.old _)) (hd.keep (hW.old _))
  have S2 := hid s2
  clear s2 e1 e2 e3 e4
  have q0 : W1.cell? ⟨w.heap.size, 0, none⟩ = some (.slice A n1 c1) := cell_of_heap hb0
  have q2 : W1.cell? ⟨w.heap.size + 1, 0, none⟩ = some (.slice C m1 d1) := cell_of_heap hb1
  go_enter Tryd.func24, Tryd.ntmps24
  go_upto_region 1 with fail
  rw [← hW1]
  clear hW1
  by_cases h1 : x1 = y1
  · rw [decide_eq_true h1] at s1
    go_wp2_with fail
    refine s1.mono ?_
    rintro e w2 ⟨rfl, n, hw2⟩
    have k2 : Old W1 w2 := by rw [← hw2]; exact (Keeps.refl _ _).drewN _
    clear hw2 s1
    have r1 : w2.cell? ⟨w.heap.size, 1, none⟩ = some (.slice B n2 c2) := cell_of_heap (k2.heap hb0 trivial)
    have r3 : w2.cell? ⟨w.heap.size + 1, 1, none⟩ = some (.slice D m2 d2) := cell_of_heap (k2.heap hb1 trivial)
    go_wp2_with fail
    refine (S2.out w2 (k1.trans' k2)).mono ?_
    rintro e w3 ⟨rfl, n3, hw3⟩
    have k3 : Old w2 w3 := by rw [← hw3]; exact (Keeps.refl _ _).drewN _
    clear hw3
    go_wp2
    go_ret
    refine ⟨?_, (k1.trans' k2).trans' k3⟩
    have : decide ((x1, x2) = (y1, y2)) = decide (x2 = y2) := by rw [decide_eq_decide]; simp [h1]
    rw [this]
    rfl
  · rw [decide_eq_false h1] at s1
    go_wp2_with fail
    refine s1.mono ?_
    rintro e w2 ⟨rfl, n, hw2⟩
    have k2 : Old W1 w2 := by rw [← hw2]; exact (Keeps.refl _ _).drewN _
    clear hw2 s1
    go_wp2
    go_ret
    refine ⟨?_, k1.trans' k2⟩
    have : decide ((x1, x2) = (y1, y2)) = false := decide_eq_false fun h => h1 (by injection h)
    rw [this]
    rfl
end Go.Proofs.YtdpaaoeipconcaaDoor
