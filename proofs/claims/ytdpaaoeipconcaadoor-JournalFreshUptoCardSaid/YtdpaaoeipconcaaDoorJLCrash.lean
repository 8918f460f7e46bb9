/- journal.Log.after, Crash: what lies on the disk when so many bytes more have got down: crashJ. Conditions: the journal lies; keep is an int. -/
import Derived.Test.YtdpaaoeipconcaaDoorJBegin
namespace Go.Proofs.YtdpaaoeipconcaaDoor
open Go.RowKit

/-- The front of a row of one's own. -/
theorem OwnB.cut {F : Nat → Prop} {w : World} {A : Option Addr} {n c : Nat} {bs : List UInt8} (h : OwnB F w (.slice A bs.length c) bs) (hn : n ≤ bs.length) : OwnB F w (.slice A n c) (bs.take n) := by
  have hl : (bs.take n).length = n := by simp; omega
  refine ⟨?_, fun k hk => h.foot k (by cases A <;> simp [Value.ownBlock] at hk ⊢ <;> exact hk), by have := h.len; omega⟩
  rcases h.row with ⟨hlen, ⟨hv, h0⟩ | ⟨g, cap, cur, hv, hb0, hg, hnc, hcm, hcs, ht⟩⟩
  · obtain rfl : n = 0 := by omega
    injection hv with h1 h2 h3
    subst h1 h3
    exact ⟨by simp, .inl ⟨rfl, by simp⟩⟩
  · injection hv with h1 h2 h3
    subst h1 h3
    refine ⟨by simp, .inr ⟨g, c, cur, by rw [hl], hb0, hg, by omega, hcm, hcs, ?_⟩⟩
    rw [hl, List.map_take, ← ht, List.take_take]
    congr 1
    omega

/-- ahead of a round of after's second loop: the disk d at block b5, the result's cells at b4 -/
def InLC (w : World) (ws : List Wr) (fin : Dk) (b4 b5 : Nat) (kv iv : Value) (wr : World) : Prop :=
  ∃ (k : Nat) (kp : Int) (d : Dk) (vA vB : Value), kv = .int .i64 kp ∧ iv = .int .i64 k ∧ k ≤ ws.length ∧ crashD (ws.drop k) kp d = fin ∧ -9223372036854775808 ≤ kp ∧ kp < 9223372036854775808 ∧ (0 < kp → Fits (ws.drop k) d) ∧
    wr.heap[b5]? = some (.cells #[vA, vB] 94 (0, 0)) ∧ wr.heap[b4]? = some (.cells #[.slice none 0 0, .slice none 0 0] 94 (0, 0)) ∧
    OwnB (fun k => w.heap.size ≤ k) wr vA d.1 ∧ OwnB (fun k => w.heap.size ≤ k) wr vB d.2 ∧ (∀ k, vA.ownBlock = some k → vB.ownBlock ≠ some k) ∧ d.1.length ≤ 1048576 ∧ d.2.length ≤ 1048576 ∧ Old w wr

/-- ahead of a round of after's first loop -/
def InLD (w : World) (dA dB : List UInt8) (b5 : Nat) (k : Nat) (wr : World) : Prop :=
  (k = 0 ∧ wr.heap[b5]? = some (.cells #[.slice none 0 0, .slice none 0 0] 94 (0, 0))) ∨
  (k = 1 ∧ ∃ vA, wr.heap[b5]? = some (.cells #[vA, .slice none 0 0] 94 (0, 0)) ∧ OwnB (fun k => w.heap.size ≤ k) wr vA dA) ∨
  (k = 2 ∧ ∃ vA vB, wr.heap[b5]? = some (.cells #[vA, vB] 94 (0, 0)) ∧ OwnB (fun k => w.heap.size ≤ k) wr vA dA ∧ OwnB (fun k => w.heap.size ≤ k) wr vB dB ∧ (∀ k, vA.ownBlock = some k → vB.ownBlock ≠ some k))

set_option maxRecDepth 10000 in
set_option maxHeartbeats 4000000 in
theorem after_any (w : World) (F : Nat → Prop) (g : Nat) (vA vB vP : Value) (q : List (Wr × Value)) (j : Jn) (keep : Int) (h : LNet F w g vA vB vP q j) (hk0 : -9223372036854775808 ≤ keep) (hk1 : keep < 9223372036854775808) (hw : j.ws.length ≤ 4000000000000) :
    Calls Tryd.prog 56 #[.pointer (some ⟨g, 0, none⟩), .int .i64 keep] w (PostDisk w (crashJ j keep)) := by
  have hG := h.good
  have hql : q.length = j.ws.length := by rw [← h.pq]; simp
  obtain ⟨AP, cP, hvP, _, _⟩ := own_slice h.p.row
  rw [hql] at hvP
  subst hvP
  obtain ⟨A0, ca, hvA, _, _⟩ := h.a.slice
  obtain ⟨B0, cb, hvB, _, _⟩ := h.b.slice
  subst hvA hvB
  have HQ := hid hql
  have HPQ := hid h.pq
  clear hql
  obtain ⟨W0, hW0⟩ : ∃ W, W = (w.alloc (.cells #[.slice none 0 0, .slice none 0 0] 94)).alloc (.cells #[.slice none 0 0, .slice none 0 0] 94) := ⟨_, rfl⟩
  have k0 : Old w W0 := by rw [hW0]; exact ((Keeps.refl _ _).alloc _).alloc _
  have hb4 : W0.heap[w.heap.size]? = some (.cells #[.slice none 0 0, .slice none 0 0] 94 (0, 0)) := by rw [hW0, heap_alloc_old _ _ (by simp)]; exact heap_alloc_new _ _
  have hb5 : W0.heap[w.heap.size + 1]? = some (.cells #[.slice none 0 0, .slice none 0 0] 94 (0, 0)) := by
    rw [hW0]
    have := heap_alloc_new (w.alloc (.cells #[.slice none 0 0, .slice none 0 0] 94)) (.cells #[.slice none 0 0, .slice none 0 0] 94)
    simpa using this
  go_enter Tryd.func56, Tryd.ntmps56
  go_upto_region 2 with fail
  rw [← hW0]
  clear hW0
  go_wp2
  go_loopw [6, 10] (fun _ iv wr => ∃ k : Nat, iv = .int .i64 k ∧ Old w wr ∧ wr.heap[w.heap.size]? = some (.cells #[.slice none 0 0, .slice none 0 0] 94 (0, 0)) ∧ InLD w j.dA j.dB (w.heap.size + 1) k wr) (fun _ i _ => 2 - (intOf i).toNat)
  case atStart => exact ⟨0, rfl, k0, hb4, .inl ⟨rfl, hb5⟩⟩
  case round =>
    clear hb5 hb4 k0
    obtain ⟨k, rfl, hold, hb4, hin⟩ := hrel
    have hr := h.keep (hold.old _)
    rcases hin with ⟨rfl, hb5⟩ | ⟨rfl, vA, hb5, hA⟩ | ⟨rfl, vA, vB, hb5, hA, hB, hAB⟩
    · have c0 : wr.cell? ⟨g, 0, none⟩ = some (.slice A0 j.dA.length ca) := cell_of_heap hr.head
      have hcl := jclone_any wr _ A0 j.dA.length ca j.dA hr.a.bts rfl (by have := hG.la; omega)
      go_wp2_with fail
      refine hcl.mono ?_
      rintro e w1 ⟨v, rfl, hv, k1⟩
      clear hcl
      have hb51 := k1.heap hb5 trivial
      have d0 : w1.cell? ⟨w.heap.size + 1, 0, none⟩ = some (.slice none 0 0) := cell_of_heap hb51
      have zf : ∀ i, w1.frozen? ⟨w.heap.size + 1, i, none⟩ = false := fun i => frozen_of_heap hb51
      obtain ⟨A1, c1, rfl, _, _⟩ := hv.slice
      have KS : Keeps (· ≠ w.heap.size + 1) w1 (w1.setCell ⟨w.heap.size + 1, 0, none⟩ (.slice A1 j.dA.length c1)) := (Keeps.refl _ _).setCell (fun _ h => h rfl) _
      have nb : ∀ {v : Value} {n : Nat} {xs : List Value}, w1.ownsRow 0 5 1 v n xs → ∀ k, v.ownBlock = some k → k ≠ (w.heap.size + 1) := fun hx k hk e => own_ne_heap hx hb51 (by decide) (by rw [hk, e])
      have hso := hold.size
      have RES : Old w (w1.setCell ⟨w.heap.size + 1, 0, none⟩ (.slice A1 j.dA.length c1)) ∧ (w1.setCell ⟨w.heap.size + 1, 0, none⟩ (.slice A1 j.dA.length c1)).heap[w.heap.size]? = some (.cells #[.slice none 0 0, .slice none 0 0] 94 (0, 0)) ∧ InLD w j.dA j.dB (w.heap.size + 1) 1 (w1.setCell ⟨w.heap.size + 1, 0, none⟩ (.slice A1 j.dA.length c1)) := by
        refine ⟨(hold.trans' k1).trans KS fun k hk _ => by show k ≠ w.heap.size + 1; omega, KS.heap (k1.heap hb4 trivial) (by omega), .inr (.inl ⟨rfl, .slice A1 j.dA.length c1, ?_, own_keeps hv.row KS (nb hv.row), fun k hk => by have := hv.foot k hk; omega, hv.len⟩)⟩
        rw [heap_setCell hb51]
        rfl
      have R := hid RES
      clear RES KS hb51
      go_wp2
      exact ⟨⟨1, by go_num, R.out⟩, by simp [intOf]⟩
    · have c1 : wr.cell? ⟨g, 1, none⟩ = some (.slice B0 j.dB.length cb) := cell_of_heap hr.head
      have hcl := jclone_any wr _ B0 j.dB.length cb j.dB hr.b.bts rfl (by have := hG.lb; omega)
      go_wp2_with fail
      refine hcl.mono ?_
      rintro e w1 ⟨v, rfl, hv, k1⟩
      clear hcl
      have hb51 := k1.heap hb5 trivial
      have d1 : w1.cell? ⟨w.heap.size + 1, 1, none⟩ = some (.slice none 0 0) := cell_of_heap hb51
      have zf : ∀ i, w1.frozen? ⟨w.heap.size + 1, i, none⟩ = false := fun i => frozen_of_heap hb51
      obtain ⟨A1, c1, rfl, _, _⟩ := hv.slice
      have hA1 := hA.keep (k1.old _)
      have KS : Keeps (· ≠ w.heap.size + 1) w1 (w1.setCell ⟨w.heap.size + 1, 1, none⟩ (.slice A1 j.dB.length c1)) := (Keeps.refl _ _).setCell (fun _ h => h rfl) _
      have nb : ∀ {v : Value} {n : Nat} {xs : List Value}, w1.ownsRow 0 5 1 v n xs → ∀ k, v.ownBlock = some k → k ≠ (w.heap.size + 1) := fun hx k hk e => own_ne_heap hx hb51 (by decide) (by rw [hk, e])
      have hso := hold.size
      have RES : Old w (w1.setCell ⟨w.heap.size + 1, 1, none⟩ (.slice A1 j.dB.length c1)) ∧ (w1.setCell ⟨w.heap.size + 1, 1, none⟩ (.slice A1 j.dB.length c1)).heap[w.heap.size]? = some (.cells #[.slice none 0 0, .slice none 0 0] 94 (0, 0)) ∧ InLD w j.dA j.dB (w.heap.size + 1) 2 (w1.setCell ⟨w.heap.size + 1, 1, none⟩ (.slice A1 j.dB.length c1)) := by
        refine ⟨(hold.trans' k1).trans KS fun k hk _ => by show k ≠ w.heap.size + 1; omega, KS.heap (k1.heap hb4 trivial) (by omega), .inr (.inr ⟨rfl, vA, .slice A1 j.dB.length c1, ?_, ⟨own_keeps hA1.row KS (nb hA1.row), hA1.foot, hA1.len⟩, ⟨own_keeps hv.row KS (nb hv.row), fun k hk => by have := hv.foot k hk; omega, hv.len⟩, fun k h1 h2 => by
          have a1 := own_lt hA.row h1
          have a2 := hv.foot k h2
          omega⟩)⟩
        rw [heap_setCell hb51]
        rfl
      have R := hid RES
      clear RES KS hb51
      go_wp2
      exact ⟨⟨2, by go_num, R.out⟩, by simp [intOf]⟩
    · rw [show ((2 : Nat) : Int) = 2 from rfl]
      have c2 : wr.cell? ⟨g, 2, none⟩ = some (.slice AP j.ws.length cP) := cell_of_heap hr.head
      have hatS : InLC w j.ws (crashJ j keep) w.heap.size (w.heap.size + 1) (.int .i64 keep) (.int .i64 0) wr := ⟨0, keep, (j.dA, j.dB), _, _, rfl, rfl, Nat.zero_le _, rfl, hk0, hk1, fun _ => hG.fits, hb5, hb4, hA, hB, hAB, hG.la, hG.lb, hold⟩
      have HAT := hid hatS
      clear hatS hb5 hb4 hA hB hAB
      go_wp2
      go_loopw [1, 8, 9, 28] (fun kv _ _ iv wr => InLC w j.ws (crashJ j keep) w.heap.size (w.heap.size + 1) kv iv wr) (fun _ _ _ i _ => j.ws.length - (intOf i).toNat)
      case atStart => exact HAT.out
      case round =>
        clear HAT
        obtain ⟨k, kp, d, vA, vB, rfl, rfl, hk, hfin, hp0, hp1, hfit, hb5, hb4, hA, hB, hAB, hla, hlb, hold⟩ := hrel
        have HF := hid hfin
        clear hfin
        obtain ⟨A2, ca2, rfl, hca2, _⟩ := hA.slice
        obtain ⟨B2, cb2, rfl, hcb2, _⟩ := hB.slice
        have HAB := hid hAB
        by_cases hlt : k < j.ws.length
        · have hr := h.keep (hold.old _)
          have c2 : wr.cell? ⟨g, 2, none⟩ = some (.slice AP j.ws.length cP) := cell_of_heap hr.head
          obtain ⟨b, c, A', c', hL, -, -, -, -, e0, e1, e2, hc', hbt⟩ := hr.p.at_ (i := k) (by rw [HQ.out]; exact hlt)
          injection hL with hAP hz1 hz2
          clear hz1 hz2
          subst hAP
          have hqk : (q[k]'(by rw [HQ.out]; exact hlt)).1 = j.ws[k] := by
            have : (q.map (·.1))[k]'(by simp; rw [HQ.out]; exact hlt) = j.ws[k] := by simp only [HPQ.out]
            rw [← this]; simp
          rw [hqk] at e0 e1 e2 hc' hbt
          obtain ⟨x, hx⟩ : ∃ x, x = j.ws[k] := ⟨_, rfl⟩
          rw [← hx] at e0 e1 e2 hc' hbt
          have hdrop : j.ws.drop k = x :: j.ws.drop (k + 1) := by rw [hx]; exact List.drop_eq_getElem_cons hlt
          have hxl := hG.wl x (by rw [hx]; exact List.getElem_mem hlt)
          have i1 : (0 : Int) ≤ (k : Int) := by omega
          have i2 : (k : Int) < (j.ws.length : Int) := by omega
          obtain ⟨W1, hW1⟩ : ∃ W, W = wr.alloc (.cells #[.int .i64 (x.area : Int), .int .i64 (x.at_ : Int), .slice A' x.bytes.length c'] 99) := ⟨_, rfl⟩
          have kW : Old wr W1 := by rw [hW1]; exact (Keeps.refl _ _).alloc _
          have hb7 : W1.heap[wr.heap.size]? = some (.cells #[.int .i64 (x.area : Int), .int .i64 (x.at_ : Int), .slice A' x.bytes.length c'] 99 (0, 0)) := by rw [hW1]; exact heap_alloc_new _ _
          have m0 : W1.cell? ⟨wr.heap.size, 0, none⟩ = some (.int .i64 (x.area : Int)) := cell_of_heap hb7
          have m1 : W1.cell? ⟨wr.heap.size, 1, none⟩ = some (.int .i64 (x.at_ : Int)) := cell_of_heap hb7
          have m2 : W1.cell? ⟨wr.heap.size, 2, none⟩ = some (.slice A' x.bytes.length c') := cell_of_heap hb7
          have hb51 := kW.heap hb5 trivial
          have HDX := hid (And.intro hdrop hx)
          clear hx hqk
          go_upto_region 10 with fail
          rw [← hW1]
          clear hW1
          by_cases hkp : 0 < kp
          · obtain ⟨kn, rfl⟩ := Int.eq_ofNat_of_zero_le (show 0 ≤ kp by omega)
            have hft := hfit (by omega)
            rw [hdrop] at hft
            obtain ⟨ha1, hne, hat, hft'⟩ := hft
            obtain ⟨nn, hnn⟩ : ∃ nn, nn = min kn x.bytes.length := ⟨_, rfl⟩
            have hstep : crashD (j.ws.drop (k + 1)) ((kn : Int) - (nn : Int)) (lay d ⟨x.area, x.at_, x.bytes.take nn⟩) = crashJ j keep := by
              rw [← HF.out, hdrop, crashD, if_neg (by omega)]
              congr 1
              · omega
              · congr 2
                rw [hnn, Int.toNat_natCast]
                by_cases h : kn ≤ x.bytes.length
                · rw [Nat.min_eq_left h]
                · rw [Nat.min_eq_right (by omega), List.take_length, List.take_of_length_le (by omega)]
            have hfit2 : 0 < (kn : Int) - (nn : Int) → Fits (j.ws.drop (k + 1)) (lay d ⟨x.area, x.at_, x.bytes.take nn⟩) := fun h => by
              rw [show x.bytes.take nn = x.bytes from List.take_of_length_le (by omega)]
              exact hft'
            have HST := hid (And.intro hstep hfit2)
            have HNN := hid hnn
            have hbl : 0 < x.bytes.length := List.length_pos_iff.2 hne
            have hnn0 : 0 < nn := by omega
            have hnl : nn ≤ x.bytes.length := by omega
            have hnk : nn ≤ kn := by omega
            clear hstep hfit2 hdrop hfit hft' hnn hne
            have n0 : W1.cell? ⟨w.heap.size + 1, 0, none⟩ = some (.slice A2 d.1.length ca2) := cell_of_heap hb51
            have n1 : W1.cell? ⟨w.heap.size + 1, 1, none⟩ = some (.slice B2 d.2.length cb2) := cell_of_heap hb51
            have bkn : IntKind.i64.wrap ((kn : Int) - (nn : Int)) = (kn : Int) - (nn : Int) := by rw [IntKind.wrap_i64]; omega
            have HP := hid hp1
            clear hp0 hp1 hkp
            have hmin : (if x.bytes.length < kn then (x.bytes.length : Int) else (kn : Int)) = (nn : Int) := by
              have := HNN.out
              split <;> omega
            have hz : ¬ nn = 0 := by omega
            have HAT2 := hid hat
            clear hat
            go_upto_region 13 with fail
            have hat := HAT2.out
            clear HAT2
            by_cases ha : x.area = 0
            · rw [ha] at m0
              have hlay : lay d ⟨x.area, x.at_, x.bytes.take nn⟩ = (d.1.take x.at_ ++ x.bytes.take nn, d.2) := by simp [lay, ha]
              have hat2 : x.at_ ≤ d.1.length := by simpa [ha] using hat
              have y1 : x.at_ ≤ ca2 := by omega
              have y2 : (x.at_ : Int) ≤ (ca2 : Int) := by omega
              have y3 : nn ≤ c' := by omega
              have y4 : (nn : Int) ≤ (c' : Int) := by omega
              have y5 : (0 : Int) ≤ (x.at_ : Int) := by omega
              have y6 : (0 : Int) ≤ (nn : Int) := by omega
              have y7 : (x.at_ : Int) ≤ (d.1.length : Int) := by omega
              have y8 : ¬ d.1.length < x.at_ := by omega
              have hcut := hA.cut hat2
              have hll : (d.1.take x.at_ ++ x.bytes.take nn).length = x.at_ + nn := by simp; omega
              have htl : (d.1.take x.at_).length = x.at_ := by simp; omega
              have HLL := hid (And.intro hll htl)
              have HLAY := hid hlay
              clear hll hlay hat htl
              refine wp_region_planF (fun w' => w'.cell? ⟨w.heap.size + 1, 0, none⟩ = some (.slice A2 d.1.length ca2) ∧ w'.cell? ⟨wr.heap.size, 0, none⟩ = some (.int .i64 0) ∧ w'.cell? ⟨wr.heap.size, 1, none⟩ = some (.int .i64 (x.at_ : Int)) ∧ w'.cell? ⟨wr.heap.size, 2, none⟩ = some (.slice A' x.bytes.length c')) 20
                ((List.range 19).map (fun i => (i, none)) ++ [(19, some 19)]) (by kernel_rfl) (by kernel_rfl) ⟨n0, m0, m1, m2⟩ ?_
              iterate 19 (refine planF_take (v := ?_) (by rfl) (by rfl) (fun w' hS => ?_) ?_; rotate_left 1; (obtain ⟨s0, s1, s2, s3⟩ := hS; go_simp <;> (try rw [if_pos (by omega)]) <;> (try with_reducible rfl)); (simp only [Act.put, List.setIfInBounds_toArray, List.set_cons_zero, List.set_cons_succ]))
              refine planF_loud (by rfl) (loudly_of (by rfl) (fun K hK => ?_))
              have hcutW := hcut.keep ((kW.drew).old _)
              have hrow := hcutW.row
              rw [HLL.out.2] at hrow
              refine wp_append_ex W1.drew _ _ 22 5 (by rfl) Tryd.underlying22 info5 (by rfl) (by omega) (by rfl) hrow A' nn c' ((x.bytes.take nn).map bv) (by rfl) (by simp; omega) (fun h => (by obtain ⟨ad, e, _, h⟩ := ((hbt.keep ((kW.drew).old _)).take hnl).src (by simpa using h); exact ⟨ad, e, h⟩)) (bv_one _) (by omega) (by unfold maxLen; omega) ?_
              intro v8 w8 hown8 hgrow8 hat8
              simp only [Act.put, List.setIfInBounds_toArray, List.set_cons_zero, List.set_cons_succ]
              have k8 : Keeps (fun k => (Value.slice A2 x.at_ ca2).ownBlock ≠ some k) W1.drew w8 := (Keeps.refl _ _).grown hgrow8 (fun k _ h hn => hn h)
              replace k8 := k8.ofDrew
              have hob : (Value.slice A2 x.at_ ca2).ownBlock = (Value.slice A2 d.1.length ca2).ownBlock := by cases A2 <;> rfl
              obtain ⟨A8, c8, hv8, _, _⟩ := own_slice hown8
              have rb : ∀ {n : Nat} {cs : Array Value} {t : TypeId}, t ≠ 5 → W1.heap[n]? = some (.cells cs t (0, 0)) → (Value.slice A2 x.at_ ca2).ownBlock ≠ some n := fun ht hh => own_ne_heap (hcut.keep (kW.old _)).row hh (Ne.symm ht)
              have hb58 := k8.heap hb51 (rb (by decide) hb51)
              have hb78 := k8.heap hb7 (rb (by decide) hb7)
              have u0 : w8.cell? ⟨w.heap.size + 1, 0, none⟩ = some (.slice A2 d.1.length ca2) := cell_of_heap hb58
              have uf : ∀ i, w8.frozen? ⟨w.heap.size + 1, i, none⟩ = false := fun i => frozen_of_heap hb58
              have v0 : w8.cell? ⟨wr.heap.size, 0, none⟩ = some (.int .i64 0) := by rw [cell_of_heap hb78]; simp [ha]
              have v1 : w8.cell? ⟨wr.heap.size, 1, none⟩ = some (.int .i64 (x.at_ : Int)) := cell_of_heap hb78
              have v2 : w8.cell? ⟨wr.heap.size, 2, none⟩ = some (.slice A' x.bytes.length c') := cell_of_heap hb78
              refine hK _ _ ⟨u0, v0, v1, v2⟩ ?_
              clear hK K
              have KS : Keeps (· ≠ w.heap.size + 1) w8 (w8.setCell ⟨w.heap.size + 1, 0, none⟩ v8) := (Keeps.refl _ _).setCell (fun _ h => h rfl) _
              have nb : ∀ {v : Value} {n : Nat} {xs : List Value}, w8.ownsRow 0 5 1 v n xs → ∀ k, v.ownBlock = some k → k ≠ w.heap.size + 1 := fun hx k hk e => own_ne_heap hx hb58 (by decide) (by rw [hk, e])
              have hbf : (w8.setCell ⟨w.heap.size + 1, 0, none⟩ v8).heap[w.heap.size + 1]? = some (.cells #[v8, .slice B2 d.2.length cb2] 94 (0, 0)) := by
                rw [heap_setCell hb58]
                rfl
              have hrow8 : w8.ownsRow 0 5 1 v8 (d.1.take x.at_ ++ x.bytes.take nn).length ((d.1.take x.at_ ++ x.bytes.take nn).map bv) := by
                rw [HLL.out.1, List.map_append]; exact hown8
              have hsW := kW.size
              have hso := hold.size
              have hft8 : ∀ k, v8.ownBlock = some k → (Value.slice A2 d.1.length ca2).ownBlock = some k ∨ k = W1.heap.size := fun k hk => by
                rcases hat8 with e | e
                · rw [e, hob] at hk; exact .inl hk
                · rw [e] at hk; injection hk with hk; exact .inr hk.symm
              have hnew : OwnB (fun k => w.heap.size ≤ k) (w8.setCell ⟨w.heap.size + 1, 0, none⟩ v8) v8 (d.1.take x.at_ ++ x.bytes.take nn) :=
                ⟨own_keeps hrow8 KS (nb hrow8), fun k hk => by
                  rcases hft8 k hk with h | h
                  · exact hA.foot k h
                  · omega, by rw [HLL.out.1]; omega⟩
              have hne : ∀ k, (Value.slice B2 d.2.length cb2).ownBlock = some k → (Value.slice A2 d.1.length ca2).ownBlock ≠ some k := fun k h1 h2 => hAB k h2 h1
              have hothr := own_keeps ((hB.keep (kW.old _)).row) k8 (fun k hk e => hne k hk (by rw [← hob]; exact e))
              have hothn : OwnB (fun k => w.heap.size ≤ k) (w8.setCell ⟨w.heap.size + 1, 0, none⟩ v8) _ _ := ⟨own_keeps hothr KS (nb hothr), hB.foot, hB.len⟩
              have hb48 := KS.heap (k8.heap (kW.heap hb4 trivial) (rb (by decide) (kW.heap hb4 trivial))) (show w.heap.size ≠ w.heap.size + 1 by omega)
              have RES : InLC w j.ws (crashJ j keep) w.heap.size (w.heap.size + 1) (.int .i64 ((kn : Int) - (nn : Int))) (.int .i64 ((k + 1 : Nat) : Int)) (w8.setCell ⟨w.heap.size + 1, 0, none⟩ v8) := by
                have hs := HST.out
                rw [HLAY.out] at hs
                refine ⟨k + 1, _, (d.1.take x.at_ ++ x.bytes.take nn, d.2), _, _, rfl, rfl, by omega, hs.1, by omega, by have := HP.out; omega, hs.2, hbf, hb48, hnew, hothn, ?_, by rw [HLL.out.1]; omega, hlb, ((hold.trans' kW).trans k8 fun k hk _ e => by
                  have h1 := hA.foot k (by rw [← hob]; exact e)
                  omega).trans KS fun k hk _ => by show k ≠ w.heap.size + 1; omega⟩
                intro k h1 h2
                rcases hft8 k h1 with h | h
                · exact hne k h2 h
                · have := own_lt hB.row h2
                  omega
              have RESH := hid RES
              clear RES hnew hothn hothr hrow8 hbf hb48 hown8 hgrow8
              subst hv8
              refine planF_tail (by rfl) ?_
              go_wp2
              refine NoPanic.normal ?_
              go_wp2
              exact ⟨RESH.out, by simp [intOf]; omega⟩
            · replace ha : x.area = 1 := by omega
              rw [ha] at m0
              have hlay : lay d ⟨x.area, x.at_, x.bytes.take nn⟩ = (d.1, d.2.take x.at_ ++ x.bytes.take nn) := by simp [lay, ha]
              have hat2 : x.at_ ≤ d.2.length := by simpa [ha] using hat
              have y1 : x.at_ ≤ cb2 := by omega
              have y2 : (x.at_ : Int) ≤ (cb2 : Int) := by omega
              have y3 : nn ≤ c' := by omega
              have y4 : (nn : Int) ≤ (c' : Int) := by omega
              have y5 : (0 : Int) ≤ (x.at_ : Int) := by omega
              have y6 : (0 : Int) ≤ (nn : Int) := by omega
              have y7 : (x.at_ : Int) ≤ (d.2.length : Int) := by omega
              have y8 : ¬ d.2.length < x.at_ := by omega
              have hcut := hB.cut hat2
              have hll : (d.2.take x.at_ ++ x.bytes.take nn).length = x.at_ + nn := by simp; omega
              have htl : (d.2.take x.at_).length = x.at_ := by simp; omega
              have HLL := hid (And.intro hll htl)
              have HLAY := hid hlay
              clear hll hlay hat htl
              refine wp_region_planF (fun w' => w'.cell? ⟨w.heap.size + 1, 1, none⟩ = some (.slice B2 d.2.length cb2) ∧ w'.cell? ⟨wr.heap.size, 0, none⟩ = some (.int .i64 1) ∧ w'.cell? ⟨wr.heap.size, 1, none⟩ = some (.int .i64 (x.at_ : Int)) ∧ w'.cell? ⟨wr.heap.size, 2, none⟩ = some (.slice A' x.bytes.length c')) 20
                ((List.range 19).map (fun i => (i, none)) ++ [(19, some 19)]) (by kernel_rfl) (by kernel_rfl) ⟨n1, m0, m1, m2⟩ ?_
              iterate 19 (refine planF_take (v := ?_) (by rfl) (by rfl) (fun w' hS => ?_) ?_; rotate_left 1; (obtain ⟨s0, s1, s2, s3⟩ := hS; go_simp <;> (try rw [if_pos (by omega)]) <;> (try with_reducible rfl)); (simp only [Act.put, List.setIfInBounds_toArray, List.set_cons_zero, List.set_cons_succ]))
              refine planF_loud (by rfl) (loudly_of (by rfl) (fun K hK => ?_))
              have hcutW := hcut.keep ((kW.drew).old _)
              have hrow := hcutW.row
              rw [HLL.out.2] at hrow
              refine wp_append_ex W1.drew _ _ 22 5 (by rfl) Tryd.underlying22 info5 (by rfl) (by omega) (by rfl) hrow A' nn c' ((x.bytes.take nn).map bv) (by rfl) (by simp; omega) (fun h => (by obtain ⟨ad, e, _, h⟩ := ((hbt.keep ((kW.drew).old _)).take hnl).src (by simpa using h); exact ⟨ad, e, h⟩)) (bv_one _) (by omega) (by unfold maxLen; omega) ?_
              intro v8 w8 hown8 hgrow8 hat8
              simp only [Act.put, List.setIfInBounds_toArray, List.set_cons_zero, List.set_cons_succ]
              have k8 : Keeps (fun k => (Value.slice B2 x.at_ cb2).ownBlock ≠ some k) W1.drew w8 := (Keeps.refl _ _).grown hgrow8 (fun k _ h hn => hn h)
              replace k8 := k8.ofDrew
              have hob : (Value.slice B2 x.at_ cb2).ownBlock = (Value.slice B2 d.2.length cb2).ownBlock := by cases B2 <;> rfl
              obtain ⟨A8, c8, hv8, _, _⟩ := own_slice hown8
              have rb : ∀ {n : Nat} {cs : Array Value} {t : TypeId}, t ≠ 5 → W1.heap[n]? = some (.cells cs t (0, 0)) → (Value.slice B2 x.at_ cb2).ownBlock ≠ some n := fun ht hh => own_ne_heap (hcut.keep (kW.old _)).row hh (Ne.symm ht)
              have hb58 := k8.heap hb51 (rb (by decide) hb51)
              have hb78 := k8.heap hb7 (rb (by decide) hb7)
              have u0 : w8.cell? ⟨w.heap.size + 1, 1, none⟩ = some (.slice B2 d.2.length cb2) := cell_of_heap hb58
              have uf : ∀ i, w8.frozen? ⟨w.heap.size + 1, i, none⟩ = false := fun i => frozen_of_heap hb58
              have v0 : w8.cell? ⟨wr.heap.size, 0, none⟩ = some (.int .i64 1) := by rw [cell_of_heap hb78]; simp [ha]
              have v1 : w8.cell? ⟨wr.heap.size, 1, none⟩ = some (.int .i64 (x.at_ : Int)) := cell_of_heap hb78
              have v2 : w8.cell? ⟨wr.heap.size, 2, none⟩ = some (.slice A' x.bytes.length c') := cell_of_heap hb78
              refine hK _ _ ⟨u0, v0, v1, v2⟩ ?_
              clear hK K
              have KS : Keeps (· ≠ w.heap.size + 1) w8 (w8.setCell ⟨w.heap.size + 1, 1, none⟩ v8) := (Keeps.refl _ _).setCell (fun _ h => h rfl) _
              have nb : ∀ {v : Value} {n : Nat} {xs : List Value}, w8.ownsRow 0 5 1 v n xs → ∀ k, v.ownBlock = some k → k ≠ w.heap.size + 1 := fun hx k hk e => own_ne_heap hx hb58 (by decide) (by rw [hk, e])
              have hbf : (w8.setCell ⟨w.heap.size + 1, 1, none⟩ v8).heap[w.heap.size + 1]? = some (.cells #[.slice A2 d.1.length ca2, v8] 94 (0, 0)) := by
                rw [heap_setCell hb58]
                rfl
              have hrow8 : w8.ownsRow 0 5 1 v8 (d.2.take x.at_ ++ x.bytes.take nn).length ((d.2.take x.at_ ++ x.bytes.take nn).map bv) := by
                rw [HLL.out.1, List.map_append]; exact hown8
              have hsW := kW.size
              have hso := hold.size
              have hft8 : ∀ k, v8.ownBlock = some k → (Value.slice B2 d.2.length cb2).ownBlock = some k ∨ k = W1.heap.size := fun k hk => by
                rcases hat8 with e | e
                · rw [e, hob] at hk; exact .inl hk
                · rw [e] at hk; injection hk with hk; exact .inr hk.symm
              have hnew : OwnB (fun k => w.heap.size ≤ k) (w8.setCell ⟨w.heap.size + 1, 1, none⟩ v8) v8 (d.2.take x.at_ ++ x.bytes.take nn) :=
                ⟨own_keeps hrow8 KS (nb hrow8), fun k hk => by
                  rcases hft8 k hk with h | h
                  · exact hB.foot k h
                  · omega, by rw [HLL.out.1]; omega⟩
              have hne : ∀ k, (Value.slice A2 d.1.length ca2).ownBlock = some k → (Value.slice B2 d.2.length cb2).ownBlock ≠ some k := fun k h1 h2 => hAB k h1 h2
              have hothr := own_keeps ((hA.keep (kW.old _)).row) k8 (fun k hk e => hne k hk (by rw [← hob]; exact e))
              have hothn : OwnB (fun k => w.heap.size ≤ k) (w8.setCell ⟨w.heap.size + 1, 1, none⟩ v8) _ _ := ⟨own_keeps hothr KS (nb hothr), hA.foot, hA.len⟩
              have hb48 := KS.heap (k8.heap (kW.heap hb4 trivial) (rb (by decide) (kW.heap hb4 trivial))) (show w.heap.size ≠ w.heap.size + 1 by omega)
              have RES : InLC w j.ws (crashJ j keep) w.heap.size (w.heap.size + 1) (.int .i64 ((kn : Int) - (nn : Int))) (.int .i64 ((k + 1 : Nat) : Int)) (w8.setCell ⟨w.heap.size + 1, 1, none⟩ v8) := by
                have hs := HST.out
                rw [HLAY.out] at hs
                refine ⟨k + 1, _, (d.1, d.2.take x.at_ ++ x.bytes.take nn), _, _, rfl, rfl, by omega, hs.1, by omega, by have := HP.out; omega, hs.2, hbf, hb48, hothn, hnew, ?_, hla, by rw [HLL.out.1]; omega, ((hold.trans' kW).trans k8 fun k hk _ e => by
                  have h1 := hB.foot k (by rw [← hob]; exact e)
                  omega).trans KS fun k hk _ => by show k ≠ w.heap.size + 1; omega⟩
                intro k h1 h2
                rcases hft8 k h2 with h | h
                · exact hne k h1 h
                · have := own_lt hA.row h1
                  omega
              have RESH := hid RES
              clear RES hnew hothn hothr hrow8 hbf hb48 hown8 hgrow8
              subst hv8
              refine planF_tail (by rfl) ?_
              go_wp2
              refine NoPanic.normal ?_
              go_wp2
              exact ⟨RESH.out, by simp [intOf]; omega⟩
          · have hst : crashJ j keep = d := by
              rw [← HF.out]
              exact crashD_stop _ _ _ (by omega)
            have hbe5 := hb51
            have hbe4 := kW.heap hb4 trivial
            have hAe := hA.keep (kW.old _)
            have hBe := hB.keep (kW.old _)
            have holde := hold.trans' kW
            have hz : ¬ (x.bytes.length : Int) < kp := by omega
            have hz2 : kp ≤ 0 := by omega
            clear hdrop hfit
            have HST := hid hst
            clear hst
            have p0 : W1.cell? ⟨w.heap.size + 1, 0, none⟩ = some (.slice A2 d.1.length ca2) := cell_of_heap hbe5
            have p1 : W1.cell? ⟨w.heap.size + 1, 1, none⟩ = some (.slice B2 d.2.length cb2) := cell_of_heap hbe5
            have g0 : W1.cell? ⟨w.heap.size, 0, none⟩ = some (.slice none 0 0) := cell_of_heap hbe4
            have g1 : W1.cell? ⟨w.heap.size, 1, none⟩ = some (.slice none 0 0) := cell_of_heap hbe4
            have zf : ∀ i, W1.frozen? ⟨w.heap.size, i, none⟩ = false := fun i => frozen_of_heap hbe4
            have hbf : ((W1.setCell ⟨w.heap.size, 0, none⟩ (.slice A2 d.1.length ca2)).setCell ⟨w.heap.size, 1, none⟩ (.slice B2 d.2.length cb2)).heap[w.heap.size]? = some (.cells #[.slice A2 d.1.length ca2, .slice B2 d.2.length cb2] 94 (0, 0)) := by
              rw [heap_setCell (heap_setCell hbe4 _)]
              rfl
            have KS : Keeps (· ≠ w.heap.size) W1 ((W1.setCell ⟨w.heap.size, 0, none⟩ (.slice A2 d.1.length ca2)).setCell ⟨w.heap.size, 1, none⟩ (.slice B2 d.2.length cb2)) := ((Keeps.refl _ _).setCell (fun _ h => h rfl) _).setCell (fun _ h => h rfl) _
            have d0 := cell_of_heap (i := 0) hbf
            have d1 := cell_of_heap (i := 1) hbf
            have nb : ∀ {v : Value} {n : Nat} {xs : List Value}, W1.ownsRow 0 5 1 v n xs → ∀ k, v.ownBlock = some k → k ≠ w.heap.size := fun hx k hk e => own_ne_heap hx hbe4 (by decide) (by rw [hk, e])
            have END := hid (And.intro (show OwnB (fun k => w.heap.size ≤ k) _ _ d.1 from ⟨own_keeps hAe.row KS (nb hAe.row), hAe.foot, hAe.len⟩) (And.intro (show OwnB (fun k => w.heap.size ≤ k) _ _ d.2 from ⟨own_keeps hBe.row KS (nb hBe.row), hBe.foot, hBe.len⟩) (holde.trans KS fun k hk _ => by show k ≠ w.heap.size; omega)))
            clear KS hAe hBe hbf nb holde hbe4 hbe5
            go_wp2
            rw [HST.out]
            exact bodyPost_ret (v := .agg #[.slice A2 d.1.length ca2, .slice B2 d.2.length cb2]) (by simp [results, Tryd.results56, go_sem, d0, d1]) rfl ⟨_, _, rfl, END.out.1, END.out.2.1, HAB.out, END.out.2.2⟩
        · have hst : crashJ j keep = d := by
            rw [← HF.out, List.drop_of_length_le (by omega)]
            rfl
          have hbe5 := hb5
          have hbe4 := hb4
          have hAe := hA
          have hBe := hB
          have holde := hold
          have i2 : ¬ (k : Int) < (j.ws.length : Int) := by omega
          clear hfit
          have HST := hid hst
          clear hst
          have p0 : wr.cell? ⟨w.heap.size + 1, 0, none⟩ = some (.slice A2 d.1.length ca2) := cell_of_heap hbe5
          have p1 : wr.cell? ⟨w.heap.size + 1, 1, none⟩ = some (.slice B2 d.2.length cb2) := cell_of_heap hbe5
          have g0 : wr.cell? ⟨w.heap.size, 0, none⟩ = some (.slice none 0 0) := cell_of_heap hbe4
          have g1 : wr.cell? ⟨w.heap.size, 1, none⟩ = some (.slice none 0 0) := cell_of_heap hbe4
          have zf : ∀ i, wr.frozen? ⟨w.heap.size, i, none⟩ = false := fun i => frozen_of_heap hbe4
          have hbf : ((wr.setCell ⟨w.heap.size, 0, none⟩ (.slice A2 d.1.length ca2)).setCell ⟨w.heap.size, 1, none⟩ (.slice B2 d.2.length cb2)).heap[w.heap.size]? = some (.cells #[.slice A2 d.1.length ca2, .slice B2 d.2.length cb2] 94 (0, 0)) := by
            rw [heap_setCell (heap_setCell hbe4 _)]
            rfl
          have KS : Keeps (· ≠ w.heap.size) wr ((wr.setCell ⟨w.heap.size, 0, none⟩ (.slice A2 d.1.length ca2)).setCell ⟨w.heap.size, 1, none⟩ (.slice B2 d.2.length cb2)) := ((Keeps.refl _ _).setCell (fun _ h => h rfl) _).setCell (fun _ h => h rfl) _
          have d0 := cell_of_heap (i := 0) hbf
          have d1 := cell_of_heap (i := 1) hbf
          have nb : ∀ {v : Value} {n : Nat} {xs : List Value}, wr.ownsRow 0 5 1 v n xs → ∀ k, v.ownBlock = some k → k ≠ w.heap.size := fun hx k hk e => own_ne_heap hx hbe4 (by decide) (by rw [hk, e])
          have END := hid (And.intro (show OwnB (fun k => w.heap.size ≤ k) _ _ d.1 from ⟨own_keeps hAe.row KS (nb hAe.row), hAe.foot, hAe.len⟩) (And.intro (show OwnB (fun k => w.heap.size ≤ k) _ _ d.2 from ⟨own_keeps hBe.row KS (nb hBe.row), hBe.foot, hBe.len⟩) (holde.trans KS fun k hk _ => by show k ≠ w.heap.size; omega)))
          clear KS hAe hBe hbf nb holde hbe4 hbe5
          go_wp2
          rw [HST.out]
          exact bodyPost_ret (v := .agg #[.slice A2 d.1.length ca2, .slice B2 d.2.length cb2]) (by simp [results, Tryd.results56, go_sem, d0, d1]) rfl ⟨_, _, rfl, END.out.1, END.out.2.1, HAB.out, END.out.2.2⟩

set_option maxHeartbeats 2000000 in
theorem lcrash_any (w : World) (F : Nat → Prop) (g : Nat) (vA vB vP : Value) (q : List (Wr × Value)) (j : Jn) (keep : Int) (h : LNet F w g vA vB vP q j) (hk0 : -9223372036854775808 ≤ keep) (hk1 : keep < 9223372036854775808) (hw : j.ws.length ≤ 4000000000000)
    (hl : (crashJ j keep).1.length ≤ 1048576 ∧ (crashJ j keep).2.length ≤ 1048576) :
    Calls Tryd.prog 25 #[.pointer (some ⟨g, 0, none⟩), .int .i64 keep] w (PostDisk w (crashJ j keep)) := by
  obtain ⟨W0, hW0⟩ : ∃ W, W = w.alloc (.cells #[.slice none 0 0, .slice none 0 0] 24) := ⟨_, rfl⟩
  have k0 : Old w W0 := by rw [hW0]; exact (Keeps.refl _ _).alloc _
  have hb4 : W0.heap[w.heap.size]? = some (.cells #[.slice none 0 0, .slice none 0 0] 24 (0, 0)) := by rw [hW0]; exact heap_alloc_new _ _
  have haf := after_any W0 F g vA vB vP q j keep (h.keep (k0.old _)) hk0 hk1 hw
  generalize crashJ j keep = d at *
  obtain ⟨hl1, hl2⟩ := hl
  have hs0 := k0.size
  go_enter Tryd.func25, Tryd.ntmps25
  go_upto_region 1 with fail
  rw [← hW0]
  clear hW0
  go_wp2_with fail
  refine haf.mono ?_
  rintro e w1 ⟨vA, vB, rfl, hA, hB, hAB, k1⟩
  clear haf
  obtain ⟨A1, ca1, rfl, hca1, _⟩ := hA.slice
  obtain ⟨B1, cb1, rfl, hcb1, _⟩ := hB.slice
  go_upto_region 2 with fail
  obtain ⟨W1, hW1⟩ : ∃ W, W = w1.alloc (.cells #[.slice A1 d.1.length ca1, .slice B1 d.2.length cb1] 94) := ⟨_, rfl⟩
  rw [← hW1]
  have k2 : Old w1 W1 := by rw [hW1]; exact (Keeps.refl _ _).alloc _
  have hb5 : W1.heap[w1.heap.size]? = some (.cells #[.slice A1 d.1.length ca1, .slice B1 d.2.length cb1] 94 (0, 0)) := by rw [hW1]; exact heap_alloc_new _ _
  clear hW1
  have hb41 := (k1.trans' k2).heap hb4 trivial
  have q0 : W1.cell? ⟨w1.heap.size, 0, none⟩ = some (.slice A1 d.1.length ca1) := cell_of_heap hb5
  have q1 : W1.cell? ⟨w1.heap.size, 1, none⟩ = some (.slice B1 d.2.length cb1) := cell_of_heap hb5
  have hA1 := hA.bts.keep (k2.old _)
  have hB1 := hB.bts.keep (k2.old _)
  refine wp_region_planF (fun w' => w'.cell? ⟨w1.heap.size, 0, none⟩ = some (.slice A1 d.1.length ca1) ∧ w'.cell? ⟨w1.heap.size, 1, none⟩ = some (.slice B1 d.2.length cb1)) 7 [(0, none), (1, none), (3, none), (4, none), (2, some 2), (5, some 5), (6, none)] (by kernel_rfl) (by kernel_rfl) ⟨q0, q1⟩ ?_
  iterate 4 (refine planF_take (v := ?_) (by rfl) (by rfl) (fun w' hS => ?_) ?_; rotate_left 1; (obtain ⟨s0, s1⟩ := hS; go_simp <;> (try with_reducible rfl)); (simp only [Act.put, List.setIfInBounds_toArray, List.set_cons_zero, List.set_cons_succ]))
  have k1d : Old W1 W1.drew := (Keeps.refl _ _).drew
  refine planF_loud (by rfl) (loudly_of (by rfl) (fun K hK => ?_))
  go_wp2_with (go_at_call 57; refine (jclone_any W1.drew _ A1 d.1.length ca1 d.1 (hA1.keep (k1d.old _)) rfl (by omega)).mono ?_)
  rintro e w2 ⟨vA2, rfl, hA2, k3⟩
  obtain ⟨A2, ca2, rfl, _, _⟩ := hA2.slice
  replace k3 := k3.ofDrew
  refine hK _ _ ⟨(k3.cell (lt_of_cell q0) trivial).trans q0, (k3.cell (lt_of_cell q1) trivial).trans q1⟩ ?_
  clear hK K
  refine planF_loud (by rfl) (loudly_of (by rfl) (fun K hK => ?_))
  go_wp2_with (go_at_call 57; refine (jclone_any w2 _ B1 d.2.length cb1 d.2 (hB1.keep (k3.old _)) rfl (by omega)).mono ?_)
  rintro e w3 ⟨vB2, rfl, hB2, k4⟩
  obtain ⟨B2, cb2, rfl, _, _⟩ := hB2.slice
  have k34 := k3.trans' k4
  refine hK _ _ ⟨(k34.cell (lt_of_cell q0) trivial).trans q0, (k34.cell (lt_of_cell q1) trivial).trans q1⟩ ?_
  clear hK K
  (refine planF_take (v := ?_) (by rfl) (by rfl) (fun w' hS => ?_) ?_; rotate_left 1; (go_simp <;> (try with_reducible rfl)); (simp only [Act.put, List.setIfInBounds_toArray, List.set_cons_zero, List.set_cons_succ]))
  have hb3 := k34.heap hb41 trivial
  have g0 : w3.cell? ⟨w.heap.size, 0, none⟩ = some (.slice none 0 0) := cell_of_heap hb3
  have g1 : w3.cell? ⟨w.heap.size, 1, none⟩ = some (.slice none 0 0) := cell_of_heap hb3
  have f0 : ∀ j, w3.frozen? ⟨w.heap.size, j, none⟩ = false := fun j => frozen_of_heap hb3
  refine planF_tail (by rfl) ?_
  go_wp2
  refine NoPanic.normal ?_
  go_wp2
  have hbf : ((w3.setCell ⟨w.heap.size, 0, none⟩ (.slice A2 d.1.length ca2)).setCell ⟨w.heap.size, 1, none⟩ (.slice B2 d.2.length cb2)).heap[w.heap.size]? = some (.cells #[.slice A2 d.1.length ca2, .slice B2 d.2.length cb2] 24 (0, 0)) := by
    rw [heap_setCell (heap_setCell hb3 _)]
    rfl
  have KS : Keeps (· ≠ w.heap.size) w3 ((w3.setCell ⟨w.heap.size, 0, none⟩ (.slice A2 d.1.length ca2)).setCell ⟨w.heap.size, 1, none⟩ (.slice B2 d.2.length cb2)) := ((Keeps.refl _ _).setCell (fun _ h => h rfl) _).setCell (fun _ h => h rfl) _
  have d0 := cell_of_heap (i := 0) hbf
  have d1 := cell_of_heap (i := 1) hbf
  have s1 := k1.size
  have s2 := k2.size
  have s3 := k3.size
  have hz4 := lt_of_heap hb4
  have hft : ∀ k, (Value.slice A2 d.1.length ca2).ownBlock = some k → W1.heap.size ≤ k := fun k hk => by have h1 : W1.drew.heap.size ≤ k := hA2.foot k hk; simpa using h1
  refine bodyPost_ret (v := .agg #[.slice A2 d.1.length ca2, .slice B2 d.2.length cb2]) (by simp [results, Tryd.results25, go_sem, d0, d1]) rfl ⟨_, _, rfl, ?_, ?_, ?_, ?_⟩
  · refine ((hA2.keep (k4.old _)).keep (KS.mono fun k _ h => ?_)).mono fun k _ h => ?_
    · have h1 : W1.drew.heap.size ≤ k := h; simp at h1; show k ≠ w.heap.size; omega
    · have h1 : W1.drew.heap.size ≤ k := h; simp at h1; omega
  · refine (hB2.keep (KS.mono fun k _ h => ?_)).mono fun k _ h => ?_
    · have h1 : w2.heap.size ≤ k := h; show k ≠ w.heap.size; omega
    · have h1 : w2.heap.size ≤ k := h; omega
  · intro k h1 h2
    have a1 := own_lt hA2.row h1
    have a2 : w2.heap.size ≤ k := hB2.foot k h2
    omega
  · exact (((k0.trans' k1).trans' k2).trans' k34).trans KS fun k hk _ => by show k ≠ w.heap.size; omega

/-- What lies on the disk is no longer than an area. -/
theorem crashD_len (M : Nat) : ∀ (ws : List Wr) (keep : Int) (d : Dk), d.1.length ≤ M → d.2.length ≤ M → (∀ x ∈ ws, x.at_ + x.bytes.length ≤ M) → (crashD ws keep d).1.length ≤ M ∧ (crashD ws keep d).2.length ≤ M
  | [], _, _, h1, h2, _ => ⟨h1, h2⟩
  | x :: ws, keep, d, h1, h2, h => by
    rw [crashD]
    split
    · exact ⟨h1, h2⟩
    · have hx := h x (List.mem_cons_self ..)
      obtain ⟨a, b⟩ := lay_len M d ⟨x.area, x.at_, x.bytes.take keep.toNat⟩ h1 h2 (by simp; omega)
      exact crashD_len M ws _ _ a b fun y hy => h y (List.mem_cons_of_mem _ hy)
theorem crashJ_len {j : Jn} (h : Good j) (keep : Int) : (crashJ j keep).1.length ≤ 1048576 ∧ (crashJ j keep).2.length ≤ 1048576 := crashD_len _ _ _ _ h.la h.lb h.wl
end Go.Proofs.YtdpaaoeipconcaaDoor
