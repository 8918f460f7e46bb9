/- weftref12.Log.Crash: what lies on the disk when so many bytes more have got down: crashJ. Conditions: the journal lies; keep is an int. -/
import Derived.Test.YtdpaaoeipconcaaDoorJRAppend
import Derived.Test.YtdpaaoeipconcaaDoorJScan
namespace Go.Proofs.YtdpaaoeipconcaaDoor
open Go.RowKit

/-- ahead of a round of Crash: the disk d at block b5, the result's cells at b4 -/
def InRC (w : World) (ws : List Wr) (fin : Dk) (b4 b5 : Nat) (kv iv : Value) (wr : World) : Prop :=
  ∃ (k : Nat) (kp : Int) (d : Dk) (vA vB : Value), kv = .int .i64 kp ∧ iv = .int .i64 k ∧ k ≤ ws.length ∧ crashD (ws.drop k) kp d = fin ∧ -9223372036854775808 ≤ kp ∧ kp < 9223372036854775808 ∧ (0 < kp → Fits (ws.drop k) d) ∧
    wr.heap[b5]? = some (.cells #[vA, vB] 24 (0, 0)) ∧ wr.heap[b4]? = some (.cells #[.slice none 0 0, .slice none 0 0] 24 (0, 0)) ∧
    OwnB (fun k => w.heap.size ≤ k) wr vA d.1 ∧ OwnB (fun k => w.heap.size ≤ k) wr vB d.2 ∧ (∀ k, vA.ownBlock = some k → vB.ownBlock ≠ some k) ∧ d.1.length ≤ 1048576 ∧ d.2.length ≤ 1048576 ∧ Old w wr

theorem crashD_stop (ws : List Wr) (kp : Int) (d : Dk) (h : ¬ kp > 0) : crashD ws kp d = d := by
  cases ws with
  | nil => rfl
  | cons x ws => rw [crashD, if_pos (by omega)]

set_option maxRecDepth 10000 in
set_option maxHeartbeats 4000000 in
theorem rcrash_any (w : World) (F : Nat → Prop) (g : Nat) (vA vB vP : Value) (q : List (Wr × Value)) (j : Jn) (keep : Int) (h : RNet F w g vA vB vP q j) (hk0 : -9223372036854775808 ≤ keep) (hk1 : keep < 9223372036854775808) (hw : j.ws.length ≤ 4000000000000) :
    Calls Tryd.prog 26 #[.pointer (some ⟨g, 0, none⟩), .int .i64 keep] w (PostDisk w (crashJ j keep)) := by
  have hG := h.good
  have hql : q.length = j.ws.length := by rw [← h.pq]; simp
  obtain ⟨AP, cP, hvP, _, _⟩ := own_slice h.p.row
  rw [hql] at hvP
  subst hvP
  obtain ⟨A0, ca, hvA, _, _⟩ := h.a.slice
  obtain ⟨B0, cb, hvB, _, _⟩ := h.b.slice
  subst hvA hvB
  have HQ := hid hql
  have HPQ := hid h.pq
  clear hql
  obtain ⟨W0, hW0⟩ : ∃ W, W = w.alloc (.cells #[.slice none 0 0, .slice none 0 0] 24) := ⟨_, rfl⟩
  have k0 : Old w W0 := by rw [hW0]; exact (Keeps.refl _ _).alloc _
  have hb4 : W0.heap[w.heap.size]? = some (.cells #[.slice none 0 0, .slice none 0 0] 24 (0, 0)) := by rw [hW0]; exact heap_alloc_new _ _
  have h0 := h.keep (k0.old _)
  have c0 : W0.cell? ⟨g, 0, none⟩ = some (.slice A0 j.dA.length ca) := cell_of_heap h0.head
  have c1 : W0.cell? ⟨g, 1, none⟩ = some (.slice B0 j.dB.length cb) := cell_of_heap h0.head
  have hcp := copied_any W0 _ _ A0 B0 j.dA.length j.dB.length ca cb j.dA j.dB h0.a.bts h0.b.bts rfl rfl hG.la hG.lb
  go_enter Tryd.func26, Tryd.ntmps26
  go_upto_region 1 with fail
  rw [← hW0]
  clear hW0
  go_wp2_with fail
  refine hcp.mono ?_
  rintro e w1 ⟨vA, vB, rfl, hA, hB, hAB, k1⟩
  clear hcp
  obtain ⟨A1, ca1, rfl, _, _⟩ := hA.slice
  obtain ⟨B1, cb1, rfl, _, _⟩ := hB.slice
  go_upto_region 2 with fail
  obtain ⟨w2, hw2⟩ : ∃ W, W = w1.alloc (.cells #[.slice A1 j.dA.length ca1, .slice B1 j.dB.length cb1] 24) := ⟨_, rfl⟩
  rw [← hw2]
  have k2 : Old w1 w2 := by rw [hw2]; exact (Keeps.refl _ _).alloc _
  have hb5 : w2.heap[w1.heap.size]? = some (.cells #[.slice A1 j.dA.length ca1, .slice B1 j.dB.length cb1] 24 (0, 0)) := by rw [hw2]; exact heap_alloc_new _ _
  clear hw2
  have hb42 := (k1.trans' k2).heap hb4 trivial
  obtain ⟨b5, hb5e⟩ : ∃ b5, b5 = w1.heap.size := ⟨_, rfl⟩
  rw [← hb5e] at hb5 ⊢
  have hlt5 : w.heap.size < b5 := by have := lt_of_heap hb4; have := k1.size; omega
  have hle1 : w.heap.size ≤ W0.heap.size := k0.size
  clear hb5e c0 c1 h0
  go_wp2
  go_loopw [1, 6, 7, 8] (fun kv iv _ _ wr => InRC w j.ws (crashJ j keep) w.heap.size b5 kv iv wr) (fun _ i _ _ _ => j.ws.length - (intOf i).toNat)
  case atStart =>
    exact ⟨0, keep, (j.dA, j.dB), _, _, rfl, rfl, Nat.zero_le _, rfl, hk0, hk1, fun _ => hG.fits, hb5, hb42, (hA.keep (k2.old _)).mono fun k _ h => Nat.le_trans hle1 h, (hB.keep (k2.old _)).mono fun k _ h => Nat.le_trans hle1 h, hAB, hG.la, hG.lb, (k0.trans' k1).trans' k2⟩
  case round =>
    clear hb5 hb42 hb4 hA hB hAB k1 k2
    obtain ⟨k, kp, d, vA, vB, rfl, rfl, hk, hfin, hp0, hp1, hfit, hb5, hb4, hA, hB, hAB, hla, hlb, hold⟩ := hrel
    have HF := hid hfin
    clear hfin
    have hr := h.keep (hold.old _)
    have c2 : wr.cell? ⟨g, 2, none⟩ = some (.slice AP j.ws.length cP) := cell_of_heap hr.head
    by_cases hgo : k < j.ws.length ∧ 0 < kp
    · obtain ⟨hlt, hkp⟩ := hgo
      obtain ⟨kn, rfl⟩ := Int.eq_ofNat_of_zero_le (show 0 ≤ kp by omega)
      obtain ⟨b, c, A', c', hL, -, -, -, -, e0, e1, e2, hc', hbt⟩ := hr.p.at_ (i := k) (by rw [HQ.out]; exact hlt)
      injection hL with hAP hz1 hz2
      clear hz1 hz2
      subst hAP
      have hqk : (q[k]'(by rw [HQ.out]; exact hlt)).1 = j.ws[k] := by
        have : (q.map (·.1))[k]'(by simp; rw [HQ.out]; exact hlt) = j.ws[k] := by simp only [HPQ.out]
        rw [← this]; simp
      rw [hqk] at e0 e1 e2 hc' hbt
      obtain ⟨x, hx⟩ : ∃ x, x = j.ws[k] := ⟨_, rfl⟩
      rw [← hx] at e0 e1 e2 hc' hbt
      have hdrop : j.ws.drop k = x :: j.ws.drop (k + 1) := by rw [hx]; exact List.drop_eq_getElem_cons hlt
      have hft := hfit (by omega)
      rw [hdrop] at hft
      obtain ⟨ha1, hne, hat, hft'⟩ := hft
      have hxl := hG.wl x (by rw [hx]; exact List.getElem_mem hlt)
      obtain ⟨nn, hnn⟩ : ∃ nn, nn = min kn x.bytes.length := ⟨_, rfl⟩
      have hstep : crashD (j.ws.drop (k + 1)) ((kn : Int) - (nn : Int)) (lay d ⟨x.area, x.at_, x.bytes.take nn⟩) = crashJ j keep := by
        rw [← HF.out, hdrop, crashD, if_neg (by omega)]
        congr 1
        · omega
        · congr 2
          rw [hnn, Int.toNat_natCast]
          by_cases h : kn ≤ x.bytes.length
          · rw [Nat.min_eq_left h]
          · rw [Nat.min_eq_right (by omega), List.take_length, List.take_of_length_le (by omega)]
      have hfit2 : 0 < (kn : Int) - (nn : Int) → Fits (j.ws.drop (k + 1)) (lay d ⟨x.area, x.at_, x.bytes.take nn⟩) := fun h => by
        rw [show x.bytes.take nn = x.bytes from List.take_of_length_le (by omega)]
        exact hft'
      have HST := hid (And.intro hstep hfit2)
      have HNN := hid hnn
      have hnl : nn ≤ x.bytes.length := by omega
      have hnk : nn ≤ kn := by omega
      clear hstep hfit2 hdrop hx hqk hfit hft' hnn
      obtain ⟨A2, ca2, rfl, hca2, _⟩ := hA.slice
      obtain ⟨B2, cb2, rfl, hcb2, _⟩ := hB.slice
      have i1 : (0 : Int) ≤ (k : Int) := by omega
      have i2 : (k : Int) < (j.ws.length : Int) := by omega
      have i3 : 0 < kn := by omega
      obtain ⟨W1, hW1⟩ : ∃ W, W = wr.alloc (.cells #[.int .i64 (x.area : Int), .int .i64 (x.at_ : Int), .slice A' x.bytes.length c'] 93) := ⟨_, rfl⟩
      have kW : Old wr W1 := by rw [hW1]; exact (Keeps.refl _ _).alloc _
      have hb7 : W1.heap[wr.heap.size]? = some (.cells #[.int .i64 (x.area : Int), .int .i64 (x.at_ : Int), .slice A' x.bytes.length c'] 93 (0, 0)) := by rw [hW1]; exact heap_alloc_new _ _
      have m0 : W1.cell? ⟨wr.heap.size, 0, none⟩ = some (.int .i64 (x.area : Int)) := cell_of_heap hb7
      have m1 : W1.cell? ⟨wr.heap.size, 1, none⟩ = some (.int .i64 (x.at_ : Int)) := cell_of_heap hb7
      have m2 : W1.cell? ⟨wr.heap.size, 2, none⟩ = some (.slice A' x.bytes.length c') := cell_of_heap hb7
      have hb51 := kW.heap hb5 trivial
      have n0 : W1.cell? ⟨b5, 0, none⟩ = some (.slice A2 d.1.length ca2) := cell_of_heap hb51
      have n1 : W1.cell? ⟨b5, 1, none⟩ = some (.slice B2 d.2.length cb2) := cell_of_heap hb51
      have bkn : IntKind.i64.wrap ((kn : Int) - (nn : Int)) = (kn : Int) - (nn : Int) := by rw [IntKind.wrap_i64]; omega
      have HP := hid hp1
      clear hp0 hp1 hkp
      go_upto_region 6 with fail
      rw [← hW1]
      clear hW1
      by_cases hp : kn < x.bytes.length
      all_goals (
        go_upto_region 9 with fail
        go_cut [1, 8] (fun kv nv wx => kv = .int .i64 ((kn : Int) - (nn : Int)) ∧ nv = .int .i64 (nn : Int) ∧ wx = W1)
        case first =>
          first
          | (have he : nn = kn := by have := HNN.out; omega
             subst he
             clear hnl hnk bkn hp i3
             go_wp2
             go_meet
             exact ⟨by first | rfl | simp, rfl, rfl⟩)
          | (have he : nn = x.bytes.length := by have := HNN.out; omega
             subst he
             clear hnl hnk hp i3
             go_wp2
             go_meet
             exact ⟨rfl, rfl, rfl⟩)
        case rest =>
        obtain ⟨rfl, rfl, rfl⟩ := hcut
        clear hp
        by_cases ha : x.area = 0
        · rw [ha] at m0
          have hlay : lay d ⟨x.area, x.at_, x.bytes.take nn⟩ = (d.1.take x.at_ ++ x.bytes.take nn, d.2) := by simp [lay, ha]
          have hat2 : x.at_ ≤ d.1.length := by simpa [ha] using hat
          have y1 : x.at_ ≤ ca2 := by omega
          have y2 : (x.at_ : Int) ≤ (ca2 : Int) := by omega
          have y3 : nn ≤ c' := by omega
          have y4 : (nn : Int) ≤ (c' : Int) := by omega
          have y5 : (0 : Int) ≤ (x.at_ : Int) := by omega
          have y6 : (0 : Int) ≤ (nn : Int) := by omega
          have bA : Bts (fun k => w.heap.size ≤ k) wc.drew A2 (d.1.take x.at_) := (((hA.bts).keep ((kW.drew).old _)).take hat2)
          have bX : Bts F wc.drew A' (x.bytes.take nn) := (hbt.keep ((kW.drew).old _)).take hnl
          have hjn := join_any wc.drew _ _ A2 A' x.at_ nn ca2 c' (d.1.take x.at_) (x.bytes.take nn) bA bX (by simp; omega) (by simp; omega) (by simp; omega)
          have hll : (d.1.take x.at_ ++ x.bytes.take nn).length = x.at_ + nn := by simp; omega
          have HLL := hid hll
          have HLAY := hid hlay
          clear hll hlay hat
          go_wp2
          refine wp_region_planF (fun w' => w'.cell? ⟨b5, 0, none⟩ = some (.slice A2 d.1.length ca2) ∧ w'.cell? ⟨wr.heap.size, 1, none⟩ = some (.int .i64 (x.at_ : Int)) ∧ w'.cell? ⟨wr.heap.size, 2, none⟩ = some (.slice A' x.bytes.length c')) 10
            [(0, none), (1, none), (2, none), (3, none), (4, none), (5, none), (6, none), (7, none), (8, none), (9, some 9)] (by kernel_rfl) (by kernel_rfl) ⟨n0, m1, m2⟩ ?_
          iterate 9 (refine planF_take (v := ?_) (by rfl) (by rfl) (fun w' hS => ?_) ?_; rotate_left 1; (obtain ⟨s0, s1, s2⟩ := hS; go_simp <;> (try rw [if_pos (by omega)]) <;> (try with_reducible rfl)); (simp only [Act.put, List.setIfInBounds_toArray, List.set_cons_zero, List.set_cons_succ]))
          refine planF_loud (by rfl) (loudly_of (by rfl) (fun K hK => ?_))
          go_wp2_with (go_at_call 59; refine hjn.mono ?_)
          rintro e w8 ⟨v8, rfl, hv8, k8⟩
          replace k8 := k8.ofDrew
          obtain ⟨A8, c8, rfl, _, _⟩ := hv8.slice
          rw [HLL.out] at hv8
          simp only [HLL.out]
          refine hK _ _ ⟨(k8.cell (lt_of_cell n0) trivial).trans n0, (k8.cell (lt_of_cell m1) trivial).trans m1, (k8.cell (lt_of_cell m2) trivial).trans m2⟩ ?_
          clear hK K hjn
          have hb58 := k8.heap hb51 trivial
          have u0 : w8.cell? ⟨b5, 0, none⟩ = some (.slice A2 d.1.length ca2) := cell_of_heap hb58
          have uf : ∀ i, w8.frozen? ⟨b5, i, none⟩ = false := fun i => frozen_of_heap hb58
          have K8 := kW.trans' k8
          have KS : Keeps (· ≠ b5) w8 (w8.setCell ⟨b5, 0, none⟩ (.slice A8 (x.at_ + nn) c8)) := (Keeps.refl _ _).setCell (fun _ h => h rfl) _
          have nb : ∀ {v : Value} {n : Nat} {xs : List Value}, w8.ownsRow 0 5 1 v n xs → ∀ k, v.ownBlock = some k → k ≠ b5 := fun hx k hk e => own_ne_heap hx hb58 (by decide) (by rw [hk, e])
          have hbf : (w8.setCell ⟨b5, 0, none⟩ (.slice A8 (x.at_ + nn) c8)).heap[b5]? = some (.cells #[.slice A8 (x.at_ + nn) c8, .slice B2 d.2.length cb2] 24 (0, 0)) := by
            rw [heap_setCell hb58]
            rfl
          have hrow8 : w8.ownsRow 0 5 1 (.slice A8 (x.at_ + nn) c8) (d.1.take x.at_ ++ x.bytes.take nn).length ((d.1.take x.at_ ++ x.bytes.take nn).map bv) := hv8.row
          have hnew : OwnB (fun k => w.heap.size ≤ k) (w8.setCell ⟨b5, 0, none⟩ (.slice A8 (x.at_ + nn) c8)) (.slice A8 (x.at_ + nn) c8) (d.1.take x.at_ ++ x.bytes.take nn) :=
            ⟨own_keeps hrow8 KS (nb hrow8), fun k hk => by have h1 : wc.drew.heap.size ≤ k := hv8.foot k hk; have h2 := kW.size; have h3 := hold.size; simp at h1; omega, hv8.len⟩
          have hoth := hB.keep (K8.old _)
          have hothn : OwnB (fun k => w.heap.size ≤ k) (w8.setCell ⟨b5, 0, none⟩ (.slice A8 (x.at_ + nn) c8)) _ _ := ⟨own_keeps hoth.row KS (nb hoth.row), hoth.foot, hoth.len⟩
          have hlt8 : ∀ k, (Value.slice A8 (x.at_ + nn) c8).ownBlock = some k → wr.heap.size ≤ k := fun k hk => by have h1 : wc.drew.heap.size ≤ k := hv8.foot k hk; have h2 := kW.size; simp at h1; omega
          have hlto : ∀ k, (Value.slice B2 d.2.length cb2).ownBlock = some k → k < wr.heap.size := fun k hk => own_lt hB.row hk
          have RES : InRC w j.ws (crashJ j keep) w.heap.size b5 (.int .i64 ((kn : Int) - (nn : Int))) (.int .i64 ((k + 1 : Nat) : Int)) (w8.setCell ⟨b5, 0, none⟩ (.slice A8 (x.at_ + nn) c8)) := by
            have hs := HST.out
            rw [HLAY.out] at hs
            refine ⟨k + 1, _, (d.1.take x.at_ ++ x.bytes.take nn, d.2), _, _, rfl, rfl, by omega, hs.1, by omega, by have := HP.out; omega, hs.2, hbf, KS.heap (K8.heap hb4 trivial) (by omega), hnew, hothn, ?_, by rw [HLL.out]; omega, hlb, (hold.trans' K8).trans KS fun k hk _ => by show k ≠ b5; omega⟩
            intro k h1 h2
            have a1 := hlt8 k h1; have a2 := hlto k h2; omega
          have RESH := hid RES
          clear RES hnew hothn hoth hrow8 hbf
          refine planF_tail (by rfl) ?_
          go_wp2
          refine NoPanic.normal ?_
          go_wp2
          exact ⟨RESH.out, by simp [intOf]; omega⟩
        · replace ha : x.area = 1 := by omega
          rw [ha] at m0
          have hlay : lay d ⟨x.area, x.at_, x.bytes.take nn⟩ = (d.1, d.2.take x.at_ ++ x.bytes.take nn) := by simp [lay, ha]
          have hat2 : x.at_ ≤ d.2.length := by simpa [ha] using hat
          have y1 : x.at_ ≤ cb2 := by omega
          have y2 : (x.at_ : Int) ≤ (cb2 : Int) := by omega
          have y3 : nn ≤ c' := by omega
          have y4 : (nn : Int) ≤ (c' : Int) := by omega
          have y5 : (0 : Int) ≤ (x.at_ : Int) := by omega
          have y6 : (0 : Int) ≤ (nn : Int) := by omega
          have bA : Bts (fun k => w.heap.size ≤ k) wc.drew B2 (d.2.take x.at_) := (((hB.bts).keep ((kW.drew).old _)).take hat2)
          have bX : Bts F wc.drew A' (x.bytes.take nn) := (hbt.keep ((kW.drew).old _)).take hnl
          have hjn := join_any wc.drew _ _ B2 A' x.at_ nn cb2 c' (d.2.take x.at_) (x.bytes.take nn) bA bX (by simp; omega) (by simp; omega) (by simp; omega)
          have hll : (d.2.take x.at_ ++ x.bytes.take nn).length = x.at_ + nn := by simp; omega
          have HLL := hid hll
          have HLAY := hid hlay
          clear hll hlay hat
          go_wp2
          refine wp_region_planF (fun w' => w'.cell? ⟨b5, 1, none⟩ = some (.slice B2 d.2.length cb2) ∧ w'.cell? ⟨wr.heap.size, 1, none⟩ = some (.int .i64 (x.at_ : Int)) ∧ w'.cell? ⟨wr.heap.size, 2, none⟩ = some (.slice A' x.bytes.length c')) 10
            [(0, none), (1, none), (2, none), (3, none), (4, none), (5, none), (6, none), (7, none), (8, none), (9, some 9)] (by kernel_rfl) (by kernel_rfl) ⟨n1, m1, m2⟩ ?_
          iterate 9 (refine planF_take (v := ?_) (by rfl) (by rfl) (fun w' hS => ?_) ?_; rotate_left 1; (obtain ⟨s0, s1, s2⟩ := hS; go_simp <;> (try rw [if_pos (by omega)]) <;> (try with_reducible rfl)); (simp only [Act.put, List.setIfInBounds_toArray, List.set_cons_zero, List.set_cons_succ]))
          refine planF_loud (by rfl) (loudly_of (by rfl) (fun K hK => ?_))
          go_wp2_with (go_at_call 59; refine hjn.mono ?_)
          rintro e w8 ⟨v8, rfl, hv8, k8⟩
          replace k8 := k8.ofDrew
          obtain ⟨A8, c8, rfl, _, _⟩ := hv8.slice
          rw [HLL.out] at hv8
          simp only [HLL.out]
          refine hK _ _ ⟨(k8.cell (lt_of_cell n1) trivial).trans n1, (k8.cell (lt_of_cell m1) trivial).trans m1, (k8.cell (lt_of_cell m2) trivial).trans m2⟩ ?_
          clear hK K hjn
          have hb58 := k8.heap hb51 trivial
          have u0 : w8.cell? ⟨b5, 1, none⟩ = some (.slice B2 d.2.length cb2) := cell_of_heap hb58
          have uf : ∀ i, w8.frozen? ⟨b5, i, none⟩ = false := fun i => frozen_of_heap hb58
          have K8 := kW.trans' k8
          have KS : Keeps (· ≠ b5) w8 (w8.setCell ⟨b5, 1, none⟩ (.slice A8 (x.at_ + nn) c8)) := (Keeps.refl _ _).setCell (fun _ h => h rfl) _
          have nb : ∀ {v : Value} {n : Nat} {xs : List Value}, w8.ownsRow 0 5 1 v n xs → ∀ k, v.ownBlock = some k → k ≠ b5 := fun hx k hk e => own_ne_heap hx hb58 (by decide) (by rw [hk, e])
          have hbf : (w8.setCell ⟨b5, 1, none⟩ (.slice A8 (x.at_ + nn) c8)).heap[b5]? = some (.cells #[.slice A2 d.1.length ca2, .slice A8 (x.at_ + nn) c8] 24 (0, 0)) := by
            rw [heap_setCell hb58]
            rfl
          have hrow8 : w8.ownsRow 0 5 1 (.slice A8 (x.at_ + nn) c8) (d.2.take x.at_ ++ x.bytes.take nn).length ((d.2.take x.at_ ++ x.bytes.take nn).map bv) := hv8.row
          have hnew : OwnB (fun k => w.heap.size ≤ k) (w8.setCell ⟨b5, 1, none⟩ (.slice A8 (x.at_ + nn) c8)) (.slice A8 (x.at_ + nn) c8) (d.2.take x.at_ ++ x.bytes.take nn) :=
            ⟨own_keeps hrow8 KS (nb hrow8), fun k hk => by have h1 : wc.drew.heap.size ≤ k := hv8.foot k hk; have h2 := kW.size; have h3 := hold.size; simp at h1; omega, hv8.len⟩
          have hoth := hA.keep (K8.old _)
          have hothn : OwnB (fun k => w.heap.size ≤ k) (w8.setCell ⟨b5, 1, none⟩ (.slice A8 (x.at_ + nn) c8)) _ _ := ⟨own_keeps hoth.row KS (nb hoth.row), hoth.foot, hoth.len⟩
          have hlt8 : ∀ k, (Value.slice A8 (x.at_ + nn) c8).ownBlock = some k → wr.heap.size ≤ k := fun k hk => by have h1 : wc.drew.heap.size ≤ k := hv8.foot k hk; have h2 := kW.size; simp at h1; omega
          have hlto : ∀ k, (Value.slice A2 d.1.length ca2).ownBlock = some k → k < wr.heap.size := fun k hk => own_lt hA.row hk
          have RES : InRC w j.ws (crashJ j keep) w.heap.size b5 (.int .i64 ((kn : Int) - (nn : Int))) (.int .i64 ((k + 1 : Nat) : Int)) (w8.setCell ⟨b5, 1, none⟩ (.slice A8 (x.at_ + nn) c8)) := by
            have hs := HST.out
            rw [HLAY.out] at hs
            refine ⟨k + 1, _, (d.1, d.2.take x.at_ ++ x.bytes.take nn), _, _, rfl, rfl, by omega, hs.1, by omega, by have := HP.out; omega, hs.2, hbf, KS.heap (K8.heap hb4 trivial) (by omega), hothn, hnew, ?_, hla, by rw [HLL.out]; omega, (hold.trans' K8).trans KS fun k hk _ => by show k ≠ b5; omega⟩
            intro k h1 h2
            have a1 := hlto k h1; have a2 := hlt8 k h2; omega
          have RESH := hid RES
          clear RES hnew hothn hoth hrow8 hbf
          refine planF_tail (by rfl) ?_
          go_wp2
          refine NoPanic.normal ?_
          go_wp2
          exact ⟨RESH.out, by simp [intOf]; omega⟩)
    · have hst : crashJ j keep = d := by
        rw [← HF.out]
        by_cases hkl : k < j.ws.length
        · exact crashD_stop _ _ _ (by omega)
        · rw [List.drop_of_length_le (by omega)]
          rfl
      have HST := hid hst
      clear hst
      have p0 : wr.cell? ⟨b5, 0, none⟩ = some vA := cell_of_heap hb5
      have p1 : wr.cell? ⟨b5, 1, none⟩ = some vB := cell_of_heap hb5
      have g0 : wr.cell? ⟨w.heap.size, 0, none⟩ = some (.slice none 0 0) := cell_of_heap hb4
      have g1 : wr.cell? ⟨w.heap.size, 1, none⟩ = some (.slice none 0 0) := cell_of_heap hb4
      have zf : ∀ i, wr.frozen? ⟨w.heap.size, i, none⟩ = false := fun i => frozen_of_heap hb4
      obtain ⟨A2, ca2, rfl, _, _⟩ := hA.slice
      obtain ⟨B2, cb2, rfl, _, _⟩ := hB.slice
      have hbf : ((wr.setCell ⟨w.heap.size, 0, none⟩ (.slice A2 d.1.length ca2)).setCell ⟨w.heap.size, 1, none⟩ (.slice B2 d.2.length cb2)).heap[w.heap.size]? = some (.cells #[.slice A2 d.1.length ca2, .slice B2 d.2.length cb2] 24 (0, 0)) := by
        rw [heap_setCell (heap_setCell hb4 _)]
        rfl
      have KS : Keeps (· ≠ w.heap.size) wr ((wr.setCell ⟨w.heap.size, 0, none⟩ (.slice A2 d.1.length ca2)).setCell ⟨w.heap.size, 1, none⟩ (.slice B2 d.2.length cb2)) := ((Keeps.refl _ _).setCell (fun _ h => h rfl) _).setCell (fun _ h => h rfl) _
      have d0 := cell_of_heap (i := 0) hbf
      have d1 := cell_of_heap (i := 1) hbf
      have nb : ∀ {v : Value} {n : Nat} {xs : List Value}, wr.ownsRow 0 5 1 v n xs → ∀ k, v.ownBlock = some k → k ≠ w.heap.size := fun hx k hk e => own_ne_heap hx hb4 (by decide) (by rw [hk, e])
      have END := hid (And.intro (show OwnB (fun k => w.heap.size ≤ k) _ _ d.1 from ⟨own_keeps hA.row KS (nb hA.row), hA.foot, hA.len⟩) (And.intro (show OwnB (fun k => w.heap.size ≤ k) _ _ d.2 from ⟨own_keeps hB.row KS (nb hB.row), hB.foot, hB.len⟩) (hold.trans KS fun k hk _ => by show k ≠ w.heap.size; omega)))
      have hex : ¬ (k : Int) < (j.ws.length : Int) ∨ ((k : Int) < (j.ws.length : Int) ∧ ¬ kp > 0) := by omega
      clear KS hA hB hfit hr hgo
      rcases hex with hex | ⟨hex, hex2⟩ <;> (
        go_wp2
        rw [HST.out]
        exact bodyPost_ret (v := .agg #[.slice A2 d.1.length ca2, .slice B2 d.2.length cb2]) (by simp [results, Tryd.results26, go_sem, d0, d1]) rfl ⟨_, _, rfl, END.out.1, END.out.2.1, hAB, END.out.2.2⟩)
end Go.Proofs.YtdpaaoeipconcaaDoor
