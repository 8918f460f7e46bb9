/- weftlaw12.untouched: every disk and every list of records of a script, left as they are till the end, then written over. Conditions: the disk and the script can be read, the table lies, the script is of small bulk. -/
import Derived.Test.YtdpaaoeipconcaaDoorJUnP
namespace Go.Proofs.YtdpaaoeipconcaaDoor
open Go.RowKit

/-- how sizes grow, a name each -/
def sz3 (r : Nat) : Nat := r * 1048976
def sz4 (r : Nat) : Nat := r * 7000000000
def n4 (r : Nat) : Nat := r * 400002
theorem sz3_zero : sz3 0 = 0 := rfl
theorem sz4_zero : sz4 0 = 0 := rfl
theorem n4_zero : n4 0 = 0 := rfl
theorem sz3_succ (r : Nat) : sz3 (r + 1) = sz3 r + 1048976 := Nat.succ_mul _ _
theorem sz4_succ (r : Nat) : sz4 (r + 1) = sz4 r + 7000000000 := Nat.succ_mul _ _
theorem n4_succ (r : Nat) : n4 (r + 1) = n4 r + 400002 := Nat.succ_mul _ _
theorem sz3_le {r : Nat} (h : r ≤ 838864) : sz3 r ≤ 1000000000000 := Nat.le_trans (Nat.mul_le_mul_right _ h) (by decide)
theorem sz4_le {r : Nat} (h : r ≤ 419432) : sz4 r ≤ 10000000000000000 := Nat.le_trans (Nat.mul_le_mul_right _ h) (by decide)
theorem n4_le {r : Nat} (h : r ≤ 419432) : n4 r ≤ 1000000000000 := Nat.le_trans (Nat.mul_le_mul_right _ h) (by decide)

/-- ahead of a round of the third loop -/
def InUn3 (qa : List (List UInt8 × Value)) (L pb r : Nat) (wb wr : World) : Prop :=
  Bk (fun i => i < L ∧ ∀ y ∈ qa.take r, y.2.ownBlock ≠ some i) pb (4 * r) (sz3 r) wr ∧ Keeps (fun i => i < L ∧ ∀ y ∈ qa.take r, y.2.ownBlock ≠ some i) wb wr

/-- .. of the fourth -/
def InUn4 (qa : List (List UInt8 × Value)) (es : List (Value × List (List UInt8 × Value) × (Nat → Prop))) (L pb r : Nat) (wb wr : World) : Prop :=
  Bk (fun i => (i < L ∧ ∀ y ∈ qa, y.2.ownBlock ≠ some i) ∧ ∀ e ∈ es.take r, ¬ e.2.2 i) pb (4 * qa.length + n4 r) (sz3 qa.length + sz4 r) wr ∧ Keeps (fun i => (i < L ∧ ∀ y ∈ qa, y.2.ownBlock ≠ some i) ∧ ∀ e ∈ es.take r, ¬ e.2.2 i) wb wr

set_option maxRecDepth 10000 in
set_option maxHeartbeats 16000000 in
theorem untouched_any (w : World) (S : Nat → Prop) (A B : Option Addr) (n m c d : Nat) (xs ys : List UInt8) (ha : Bts S w A xs) (hb : Bts S w B ys) (hn : n = xs.length) (hm : m = ys.length) (hc : n ≤ c) (hd : m ≤ d)
    (C : Option Addr) (cc : Nat) (l : List OpJ) (hO : Ops S w C l) (hS : ∀ k, S k → k < w.heap.size) (hT : Tab w) (hsl : l.length ≤ 209716) :
    Calls Tryd.prog 53 #[.agg #[.slice A n c, .slice B m d], .slice C l.length cc] w fun e w' => e = .returned (.bool true) ∧ Old w w' := by
  obtain ⟨W0, hW0⟩ : ∃ W, W = w.alloc (.cells #[.slice A n c, .slice B m d] 24) := ⟨_, rfl⟩
  have k0 : Old w W0 := by rw [hW0]; exact (Keeps.refl _ _).alloc _
  have hb0 : W0.heap[w.heap.size]? = some (.cells #[.slice A n c, .slice B m d] 24 (0, 0)) := by rw [hW0]; exact heap_alloc_new _ _
  have HN := hid hn
  have HM := hid hm
  have hl0 := hO.1
  have hpos := hT.pos
  clear hn hm
  go_enter Tryd.func53, Tryd.ntmps53
  go_upto_region 1 with fail
  rw [← hW0]
  clear hW0
  obtain ⟨W1, hW1⟩ : ∃ W, W = W0.alloc (.cells #[.pointer none, .pointer none] 29) := ⟨_, rfl⟩
  have k2 : Old W0 W1 := by rw [hW1]; exact (Keeps.refl _ _).alloc _
  have hp1 : W1.heap[W0.heap.size]? = some (.cells #[.pointer none, .pointer none] 29 (0, 0)) := by rw [hW1]; exact heap_alloc_new _ _
  have K1 := k0.trans' k2
  have hb1 := k2.heap hb0 trivial
  have b0 : W1.cell? ⟨w.heap.size, 0, none⟩ = some (.slice A n c) := cell_of_heap hb1
  have b1 : W1.cell? ⟨w.heap.size, 1, none⟩ = some (.slice B m d) := cell_of_heap hb1
  obtain ⟨pa, hpa⟩ : ∃ p, p = W0.heap.size := ⟨_, rfl⟩
  rw [← hpa] at hp1
  have hpo := popen_any W1 S pa _ _ A B n m c d xs ys hp1 (ha.keep (K1.old _)) (hb.keep (K1.old _)) HN.out HM.out hc hd (hT.keep (K1.old (fun _ => True)) trivial)
  have z0 := k0.size
  have z1 := k2.size
  go_upto_region 2 with fail
  rw [← hW1, ← hpa]
  have HPA := hid hpa
  clear hW1 hpa
  go_wp2_with fail
  refine hpo.mono ?_
  rintro e w4 ⟨rfl, H, hP, hH, k4⟩
  clear hpo b0 b1
  have hpge : w.heap.size ≤ pa := by have := HPA.out; omega
  have K4 : Old w w4 := K1.trans k4 fun k hk _ => by show k ≠ pa; omega
  have hws : wsN ((openJ (xs, ys)).map (·.1)) ≤ 1 := by
    cases ho : openJ (xs, ys) with
    | none => exact Nat.zero_le _
    | some jr => exact (open_down (j := jr.1) (recs := jr.2) ho).2
  generalize (openJ (xs, ys)).map (·.1) = o0 at *
  have HS := hid (show InUn (fun _ => False) w pa 1 (2 * 0) (.slice none 0 0) (.slice none 0 0) w4 from ⟨H, fun _ => False, o0, [], [], hP, hws, UnM.nil _ _, by simp, by simp, K4, fun k hk => by
    rcases hk with hk | hk
    · refine ⟨?_, hP.2.1 k hk, fun h => h, by simp [Value.ownBlock], by simp⟩
      rcases hH k hk with h | h
      · omega
      · omega
    · exact hk.elim⟩)
  clear hP hH k4 K4 hws hp1 hb0 hb1 k0 k2 K1 z0 z1 HPA hpge
  go_upto_block 0 with fail
  go_cut [6, 7] (fun vA vR wx => ∃ k : Nat, k ≤ l.length ∧ Hid (InUn (fun _ => False) w pa (k + 1) (2 * k) vA vR wx))
  case first =>
    go_wp2
    go_loopw [6, 7, 8, 9, 10, 11, 12, 13, 14, 15] (fun vA vR hv v _ _ _ _ _ _ wr => ∃ (k : Nat) (h : Int), v = .int .i64 k ∧ k ≤ l.length ∧ hv = .int .i64 h ∧ Hid (InUn (fun _ => False) w pa (k + 1) (2 * k) vA vR wr)) (fun _ _ _ v _ _ _ _ _ _ _ => l.length - (intOf v).toNat)
    case atStart => exact ⟨0, 0, rfl, Nat.zero_le _, rfl, HS⟩
    case round =>
      clear HS
      obtain ⟨k, h, rfl, hk, rfl, hin⟩ := hrel
      have i0 : (0 : Int) ≤ (k : Int) := by omega
      obtain ⟨H, FA, o, qa, es, hP, hws, hU, hql, hel, hold, hX⟩ := hin.out
      by_cases hlt : k < l.length
      · have i1 : (k : Int) < (l.length : Int) := by omega
        cases o with
        | none =>
          have q0 : wr.cell? ⟨pa, 0, none⟩ = some (.pointer none) := cell_of_heap hP.2.2
          clear hP hU hold hX
          go_wp2
          go_meet
          exact ⟨k, hk, hin⟩
        | some j =>
          obtain ⟨b, off, rfl, hSb, A1, c1, B1, d1, h0, h1, h2, h3, h4, h5, h6, h7, h8, h9, h10⟩ := hO.at_ (j := k) hlt
          generalize l[k] = x at *
          obtain ⟨kd, hkd⟩ : ∃ kd, kd = x.kind := ⟨_, rfl⟩
          rw [← hkd] at h0
          have HKD := hid hkd
          clear hkd
          have hPc := hP
          obtain ⟨_, _, F0, G0, gl, gm, vA0, vB0, vP0, q0, vA0', vB0', vP0', q0', hp, hL, hR, _⟩ := hPc
          have qq0 : wr.cell? ⟨pa, 0, none⟩ = some (.pointer (some ⟨gl, 0, none⟩)) := cell_of_heap hp
          have qq1 : wr.cell? ⟨pa, 1, none⟩ = some (.pointer (some ⟨gm, 0, none⟩)) := cell_of_heap hp
          replace h0 := ((hold.old S).cell (lt_of_cell h0) hSb).trans h0
          replace h1 := ((hold.old S).cell (lt_of_cell h1) hSb).trans h1
          replace h2 := ((hold.old S).cell (lt_of_cell h2) hSb).trans h2
          replace h3 := ((hold.old S).cell (lt_of_cell h3) hSb).trans h3
          obtain ⟨go, hgo⟩ : ∃ g, g = wr.heap.size := ⟨_, rfl⟩
          obtain ⟨wa, hA⟩ : ∃ wa, wa = wr.alloc (.cells #[.int .i64 kd, .slice A1 x.one.length c1, .slice B1 x.many.length d1, .int .i64 x.n] 54) := ⟨_, rfl⟩
          have ka : Old wr wa := by rw [hA]; exact (Keeps.refl _ _).alloc _
          have hba : wa.heap[go]? = some (.cells #[.int .i64 kd, .slice A1 x.one.length c1, .slice B1 x.many.length d1, .int .i64 x.n] 54 (0, 0)) := by rw [hA, hgo]; exact heap_alloc_new _ _
          have hza : wa.heap.size = go + 1 := by rw [hA, hgo]; simp
          have HSA := hid (show InUn (fun i => i = go) w pa (k + 1) (2 * k) _ _ wa from hin.out.more ka (Nat.le_refl _) (Nat.le_refl _) fun i hi => .inr (by have e : i = go := hi; omega))
          have y0 : wa.cell? ⟨go, 0, none⟩ = some (.int .i64 kd) := cell_of_heap hba
          have hpw := ka.heap hp trivial
          have HOP := hid (And.intro h6 (And.intro h7 (And.intro h8 (And.intro h9 h10))))
          have HGO := hid (And.intro (show w.heap.size ≤ go by rw [hgo]; exact hold.size) hza)
          clear hP hU hold hX hin hp hL hR h4 h5 h6 h7 h8 h9 h10
          go_upto_region 11 with fail
          rw [← hA, ← hgo]
          clear hA hgo qq0 qq1 h0 h1 h2 h3 hza
          go_cut [60] (fun v wx => ∃ t : Bool, v = .bool t ∧ wx = wa)
          case first =>
            by_cases h6 : kd = 6
            · subst h6
              by_cases hh : h < 4000000
              · go_wp2
                go_meet
                exact ⟨_, rfl, rfl⟩
              · go_wp2
                go_meet
                exact ⟨_, rfl, rfl⟩
            · have b6 : (kd == 6) = false := beq_eq_false_iff_ne.2 h6
              by_cases h7 : kd = 7
              · subst h7
                by_cases hh : h < 4000000
                · go_wp2
                  go_meet
                  exact ⟨_, rfl, rfl⟩
                · go_wp2
                  go_meet
                  exact ⟨_, rfl, rfl⟩
              · have b7 : (kd == 7) = false := beq_eq_false_iff_ne.2 h7
                go_wp2
                go_meet
                exact ⟨_, rfl, rfl⟩
          case rest =>
          obtain ⟨t, rfl, rfl⟩ := hcut
          go_upto_if 60 with fail
          go_cut [6, 7, 8] (fun vA vR hv wx => (∃ h : Int, hv = .int .i64 h) ∧ wx.heap[go]? = some (.cells #[.int .i64 kd, .slice A1 x.one.length c1, .slice B1 x.many.length d1, .int .i64 x.n] 54 (0, 0)) ∧ Hid (InUn (fun i => i = go) w pa (k + 1) (2 * k + 2) vA vR wx))
          case first =>
            cases t with
            | false =>
              have HR := hid (HSA.out.more (Keeps.refl _ _) (Nat.le_refl _) (show 2 * k ≤ 2 * k + 2 by omega) fun i hi => .inl hi)
              go_wp2
              go_meet
              exact ⟨⟨h, rfl⟩, hba, HR⟩
            | true =>
              go_wp2
              go_loopw [6, 7, 8, 11, 12, 13, 14, 15] (fun vA vR hv kv _ _ _ _ wr => ∃ (r : Nat) (h : Int), kv = .int .i64 r ∧ r ≤ 2 ∧ hv = .int .i64 h ∧ wr.heap[go]? = some (.cells #[.int .i64 kd, .slice A1 x.one.length c1, .slice B1 x.many.length d1, .int .i64 x.n] 54 (0, 0)) ∧ wr.heap[pa]? = some (.cells #[.pointer (some ⟨gl, 0, none⟩), .pointer (some ⟨gm, 0, none⟩)] 29 (0, 0)) ∧ Hid (InUn (fun i => i = go) w pa (k + 1) (2 * k + r) vA vR wr)) (fun _ _ _ kv _ _ _ _ _ => 2 - (intOf kv).toNat)
              case atStart => exact ⟨0, h, rfl, by omega, rfl, hba, hpw, HSA⟩
              case round =>
                clear HSA hba hpw y0
                obtain ⟨r, h2, rfl, hr2, rfl, hbg, hbp, hin⟩ := hrel
                have j0 : (0 : Int) ≤ (r : Int) := by omega
                by_cases hlt2 : r < 2
                · have j1 : (r : Int) < 2 := by omega
                  obtain ⟨H, FA, o, qa, es, hP, hws, hU, hql, hel, hold, hX⟩ := hin.out
                  clear hin
                  cases o with
                  | none =>
                    have h' := hP.2.2
                    rw [hbp] at h'
                    simp at h'
                  | some j2 =>
                  have hPc := hP
                  obtain ⟨_, _, F, G, gl2, gm2, vA3, vB3, vP3, q3, vA4, vB4, vP4, q4, hp, hL, hR, _⟩ := hPc
                  rw [hbp] at hp
                  have hee : gl = gl2 ∧ gm = gm2 := by simpa using hp
                  obtain ⟨rfl, rfl⟩ := hee
                  clear hp
                  have hlen := crashJ_len hL.good x.n
                  have hcl := fun (W : World) (hW : Old wr W) => lcrash_any W F gl vA3 vB3 vP3 q3 j2 x.n (hL.keep (hW.old _)) HOP.out.2.2.2.1 HOP.out.2.2.2.2 (by have h : j2.ws.length ≤ k + 1 := hws; omega) hlen
                  have hcr := fun (W : World) (hW : Old wr W) => rcrash_any W G gm vA4 vB4 vP4 q4 j2 x.n (hR.keep (hW.old _)) HOP.out.2.2.2.1 HOP.out.2.2.2.2 (by have h : j2.ws.length ≤ k + 1 := hws; omega)
                  generalize crashJ j2 x.n = D at *
                  obtain ⟨xs, ys⟩ := D
                  simp only at hlen
                  obtain ⟨hlx, hly⟩ := hlen
                  have HCL := hid hcl
                  have HCR := hid hcr
                  have HU := hid (And.intro hP (And.intro hws (And.intro hU (And.intro hql (And.intro hel (And.intro hold hX))))))
                  have hTr := hT.keep (hold.old (fun _ => True)) trivial
                  clear hcl hcr hL hR hP hU hold hX hws hql hel
                  go_upto_region 15 with fail
                  go_cut [12] (fun v wx => Hid (CrashAt wr (xs, ys) v wx))
                  case first =>
                    refine wp_region_tree (fun w' => w'.heap[pa]? = some (.cells #[.pointer (some ⟨gl, 0, none⟩), .pointer (some ⟨gm, 0, none⟩)] 29 (0, 0)) ∧ w'.heap[go]? = some (.cells #[.int .i64 kd, .slice A1 x.one.length c1, .slice B1 x.many.length d1, .int .i64 x.n] 54 (0, 0))) 8
                      (.take 0 (.take 1 (.take 2 (.take 3 (.take 4 (.take 5 (.two 6 7 (.one 7 .tail) (.one 6 .tail)))))))) (by kernel_rfl) (by kernel_rfl) ⟨hbp, hbg⟩ ?_
                    iterate 6 (refine pt_take (v := ?_) (by rfl) (by first | rfl | kernel_rfl) (fun w' hS => ?_) ?_; rotate_left 1; (obtain ⟨hS, hS2⟩ := hS; have s0 : w'.cell? ⟨pa, 0, none⟩ = some (.pointer (some ⟨gl, 0, none⟩)) := cell_of_heap hS; have s1 : w'.cell? ⟨pa, 1, none⟩ = some (.pointer (some ⟨gm, 0, none⟩)) := cell_of_heap hS; have t3 : w'.cell? ⟨go, 3, none⟩ = some (.int .i64 x.n) := cell_of_heap hS2; clear hS hS2; go_simp <;> (try with_reducible rfl)); (simp only [Act.put, List.setIfInBounds_toArray, List.set_cons_zero, List.set_cons_succ]))
                    refine pt_two (by rfl) (by rfl) (loudly_of (by rfl) (fun K hK => ?_)) (loudly_of (by rfl) (fun K hK => ?_))
                    · have hca := HCL.out wr.drew ((Keeps.refl _ wr).drew)
                      go_wp2_with fail
                      refine hca.mono ?_
                      rintro e w1 ⟨vA, vB, rfl, hA, hB, hAB, k1'⟩
                      clear hca
                      obtain ⟨Aa, ca, rfl, _, _⟩ := hA.slice
                      obtain ⟨Ba, cb, rfl, _, _⟩ := hB.slice
                      have kk : Old wr w1 := k1'.ofDrew
                      refine hK _ _ ⟨kk.heap hbp trivial, kk.heap hbg trivial⟩ ?_
                      clear hK K
                      refine pt_one (by rfl) (loudly_of (by first | rfl | kernel_rfl) (fun K hK => ?_))
                      obtain ⟨gd, hgd⟩ : ∃ gd, gd = w1.heap.size := ⟨_, rfl⟩
                      obtain ⟨W2, hW2⟩ : ∃ W, W = w1.alloc (.cells #[.slice none 0 0, .slice none 0 0] 24) := ⟨_, rfl⟩
                      have hd2 : W2.heap[gd]? = some (.cells #[.slice none 0 0, .slice none 0 0] 24 (0, 0)) := by rw [hW2, hgd]; exact heap_alloc_new _ _
                      have k2 : Old w1 W2 := by rw [hW2]; exact (Keeps.refl _ _).alloc _
                      have zk := kk.size
                      go_wp2
                      rw [← hW2, ← hgd]
                      have kk0 := kk
                      have kk := kk0.trans' k2
                      refine hK _ _ ⟨kk.heap hbp trivial, kk.heap hbg trivial⟩ ?_
                      clear hK K hW2
                      have HR := hid (CrashAt.mk (d := (xs, ys)) hd2 (show wr.heap.size ≤ gd by omega) (hA.keep (k2.old _)) (hB.keep (k2.old _)) hAB kk)
                      have d0 : W2.cell? ⟨gd, 0, none⟩ = some (.slice none 0 0) := cell_of_heap hd2
                      have d1 : W2.cell? ⟨gd, 1, none⟩ = some (.slice none 0 0) := cell_of_heap hd2
                      have df : ∀ i, W2.frozen? ⟨gd, i, none⟩ = false := fun i => frozen_of_heap hd2
                      clear hgd hA hB hAB kk kk0 k2 k1'
                      refine pt_tail (by rfl) ?_
                      go_wp2
                      refine NoPanic.normal ?_
                      go_wp2
                      go_meet
                      exact HR
                    · obtain ⟨gd, hgd⟩ : ∃ gd, gd = wr.heap.size := ⟨_, rfl⟩
                      obtain ⟨W2, hW2⟩ : ∃ W, W = (wr.alloc (.cells #[.slice none 0 0, .slice none 0 0] 24)).drew := ⟨_, rfl⟩
                      have hd2 : W2.heap[gd]? = some (.cells #[.slice none 0 0, .slice none 0 0] 24 (0, 0)) := by rw [hW2, hgd]; exact heap_alloc_new _ _
                      have kk : Old wr W2 := by rw [hW2]; exact ((Keeps.refl _ _).alloc _).drew
                      go_wp2
                      rw [← hW2, ← hgd]
                      have zk := kk.size
                      refine hK _ _ ⟨kk.heap hbp trivial, kk.heap hbg trivial⟩ ?_
                      clear hK K hW2
                      refine pt_one (by rfl) (loudly_of (by first | rfl | kernel_rfl) (fun K hK => ?_))
                      have hca := HCL.out W2 kk
                      have HGD := hid hgd
                      clear hgd
                      go_wp2_with fail
                      refine hca.mono ?_
                      rintro e w1 ⟨vA, vB, rfl, hA, hB, hAB, k1⟩
                      clear hca
                      obtain ⟨Aa, ca, rfl, _, _⟩ := hA.slice
                      obtain ⟨Ba, cb, rfl, _, _⟩ := hB.slice
                      have kk0 := kk
                      have kk := kk0.trans' k1
                      have hd3 := k1.heap hd2 trivial
                      refine hK _ _ ⟨kk.heap hbp trivial, kk.heap hbg trivial⟩ ?_
                      clear hK K
                      have HR := hid (CrashAt.mk (d := (xs, ys)) hd3 (show wr.heap.size ≤ gd by have := HGD.out; omega) (hA.mono fun k _ (h : W2.heap.size ≤ k) => (by omega : wr.heap.size ≤ k)) (hB.mono fun k _ (h : W2.heap.size ≤ k) => (by omega : wr.heap.size ≤ k)) hAB kk)
                      have d0 : w1.cell? ⟨gd, 0, none⟩ = some (.slice none 0 0) := cell_of_heap hd3
                      have d1 : w1.cell? ⟨gd, 1, none⟩ = some (.slice none 0 0) := cell_of_heap hd3
                      have df : ∀ i, w1.frozen? ⟨gd, i, none⟩ = false := fun i => frozen_of_heap hd3
                      clear hA hB hAB kk kk0 k1
                      refine pt_tail (by rfl) ?_
                      go_wp2
                      refine NoPanic.normal ?_
                      go_wp2
                      go_meet
                      exact HR
                  case rest =>
                  obtain ⟨gd, v1, v2, rfl, hgd, hgd2, hA, hB, hAB, k1⟩ := hcut.out
                  clear hcut
                  simp only at hA hB
                  obtain ⟨Aa, ca, rfl, hca, _⟩ := hA.slice
                  obtain ⟨Ba, cb, rfl, hcb, _⟩ := hB.slice
                  obtain ⟨wd, hwd⟩ : ∃ W, W = wc := ⟨_, rfl⟩
                  subst hwd
                  have hbp1 := k1.heap hbp trivial
                  have hbg1 := k1.heap hbg trivial
                  have hT1 := hTr.keep (k1.old (fun _ => True)) trivial
                  have HAB := hid (And.intro hA (And.intro hB (And.intro hAB (And.intro hgd k1))))
                  clear hA hB hAB hgd hTr
                  go_upto_region 16 with fail
                  go_cut [14] (fun v wx => Hid (OpenAt wd v wx))
                  case first =>
                    refine wp_region_tree (fun w' => w'.heap[pa]? = some (.cells #[.pointer (some ⟨gl, 0, none⟩), .pointer (some ⟨gm, 0, none⟩)] 29 (0, 0)) ∧ w'.heap[go]? = some (.cells #[.int .i64 kd, .slice A1 x.one.length c1, .slice B1 x.many.length d1, .int .i64 x.n] 54 (0, 0))) 15
                      ((.take 0 (.take 1 (.take 2 (.take 3 (.take 4 (.take 5 (.one 6 (.one 7 (.take 8 (.take 9 (.take 10 (.take 11 (.take 12 (.take 13 (.take 14 .tail)))))))))))))))) (by kernel_rfl) (by kernel_rfl) ⟨hbp1, hbg1⟩ ?_
                    iterate 6 (refine pt_take (v := ?_) (by rfl) (by first | rfl | kernel_rfl) (fun w' hS => ?_) ?_; rotate_left 1; (obtain ⟨hS, hS2⟩ := hS; have s0 : w'.cell? ⟨pa, 0, none⟩ = some (.pointer (some ⟨gl, 0, none⟩)) := cell_of_heap hS; have s1 : w'.cell? ⟨pa, 1, none⟩ = some (.pointer (some ⟨gm, 0, none⟩)) := cell_of_heap hS; have t3 : w'.cell? ⟨go, 3, none⟩ = some (.int .i64 x.n) := cell_of_heap hS2; clear hS hS2; go_simp <;> (try with_reducible rfl)); (simp only [Act.put, List.setIfInBounds_toArray, List.set_cons_zero, List.set_cons_succ]))
                    refine pt_one (by rfl) (loudly_of (by first | rfl | kernel_rfl) (fun K hK => ?_))
                    have hc5 := HCR.out wd.drew (k1.drew)
                    go_wp2_with fail
                    refine hc5.mono ?_
                    rintro e w4 ⟨vA5, vB5, rfl, hA5, hB5, _, k4'⟩
                    clear hc5
                    have k4 : Old wd w4 := k4'.ofDrew
                    simp only at hA5 hB5
                    obtain ⟨A5, ca5, rfl, hca5, _⟩ := hA5.slice
                    obtain ⟨B5, cb5, rfl, hcb5, _⟩ := hB5.slice
                    refine hK _ _ ⟨k4.heap hbp1 trivial, k4.heap hbg1 trivial⟩ ?_
                    clear hK K k4'
                    refine pt_one (by rfl) (loudly_of (by first | rfl | kernel_rfl) (fun K hK => ?_))
                    have hlo := lopen_any w4 _ A5 B5 xs.length ys.length ca5 cb5 xs ys hA5.bts hB5.bts rfl rfl hca5 hcb5 (hT1.keep (k4.old (fun _ => True)) trivial)
                    clear hA5 hB5 hca5 hcb5
                    cases ho : openJ (xs, ys) with
                    | none =>
                      rw [ho] at hlo
                      go_wp2_with fail
                      refine hlo.mono ?_
                      rintro e w5 ⟨rfl, k5⟩
                      clear hlo
                      have K5 := k4.trans' k5
                      refine hK _ _ ⟨K5.heap hbp1 trivial, K5.heap hbg1 trivial⟩ ?_
                      clear hK K
                      have HR := hid (show OpenAt wd (.slice none 0 0) w5 from ⟨none, 0, [], fun _ => False, rfl, OwnR.nil _ _, fun _ h => h.elim, by simp, by simp, K5⟩)
                      iterate 7 (refine pt_take (v := ?_) (by rfl) (by first | rfl | kernel_rfl) (fun w' hS => ?_) ?_; rotate_left 1; (obtain ⟨hS, hS2⟩ := hS; have s0 : w'.cell? ⟨pa, 0, none⟩ = some (.pointer (some ⟨gl, 0, none⟩)) := cell_of_heap hS; have s1 : w'.cell? ⟨pa, 1, none⟩ = some (.pointer (some ⟨gm, 0, none⟩)) := cell_of_heap hS; have t3 : w'.cell? ⟨go, 3, none⟩ = some (.int .i64 x.n) := cell_of_heap hS2; clear hS hS2; go_simp <;> (try with_reducible rfl)); (simp only [Act.put, List.setIfInBounds_toArray, List.set_cons_zero, List.set_cons_succ]))
                      refine pt_tail (by rfl) ?_
                      go_wp2
                      refine NoPanic.normal ?_
                      go_wp2
                      go_meet
                      exact HR
                    | some jr =>
                      obtain ⟨j3, recs⟩ := jr
                      rw [ho] at hlo
                      have hcnt := open_few ho
                      have hsh := open_short ho
                      go_wp2_with fail
                      refine hlo.mono ?_
                      rintro e w5 ⟨F5, g5, vA6, vB6, vP6, q6, L6, ql, rfl, _, _, hqm, hoL, k5⟩
                      clear hlo
                      have hlen3 : ql.length = recs.length := by rw [← hqm]; simp
                      obtain ⟨AL, cL, hLs, _, _⟩ := hoL.rcs (by omega)
                      subst hLs
                      have K5 := k4.trans' k5
                      have z4 := k4.size
                      refine hK _ _ ⟨K5.heap hbp1 trivial, K5.heap hbg1 trivial⟩ ?_
                      clear hK K
                      have HR := hid (show OpenAt wd (.slice AL ql.length cL) w5 from ⟨AL, cL, ql, _, rfl, hoL.mono fun i hi (h : w4.heap.size ≤ i ∧ ¬ F5 i) => (show wd.heap.size ≤ i ∧ i < w5.heap.size from ⟨by have := h.1; omega, hi⟩), fun i h => h, by omega, fun y hy => hsh _ (by rw [← hqm]; exact List.mem_map.2 ⟨y, hy, rfl⟩), K5⟩)
                      rw [hlen3] at HR
                      have HL3 := hid hlen3
                      clear hoL hqm hlen3
                      try rw [HL3.out]
                      iterate 7 (refine pt_take (v := ?_) (by rfl) (by first | rfl | kernel_rfl) (fun w' hS => ?_) ?_; rotate_left 1; (obtain ⟨hS, hS2⟩ := hS; have s0 : w'.cell? ⟨pa, 0, none⟩ = some (.pointer (some ⟨gl, 0, none⟩)) := cell_of_heap hS; have s1 : w'.cell? ⟨pa, 1, none⟩ = some (.pointer (some ⟨gm, 0, none⟩)) := cell_of_heap hS; have t3 : w'.cell? ⟨go, 3, none⟩ = some (.int .i64 x.n) := cell_of_heap hS2; clear hS hS2; go_simp <;> (try with_reducible rfl)); (simp only [Act.put, List.setIfInBounds_toArray, List.set_cons_zero, List.set_cons_succ]))
                      refine pt_tail (by rfl) ?_
                      go_wp2
                      refine NoPanic.normal ?_
                      go_wp2
                      go_meet
                      exact HR
                  case rest =>
                  obtain ⟨AL, cL, ql, FL, rfl, hoL, hFL, hqL, hqs, k2⟩ := hcut.out
                  clear hcut
                  obtain ⟨wx, hwx⟩ : ∃ W, W = wc := ⟨_, rfl⟩
                  subst hwx
                  obtain ⟨hP, hws, hU, hql, hel, hold, hX⟩ := HU.out
                  obtain ⟨hA, hB, hAB, hgd, k1⟩ := HAB.out
                  obtain ⟨AA, cA, hvA, _, _⟩ := own_slice hU.all.row
                  subst hvA
                  obtain ⟨AR, cR, hvR, _, _⟩ := own_slice hU.row
                  subst hvR
                  have K12 := k1.trans' k2
                  have hgdx := k2.heap hgd2 trivial
                  have d0 : wx.cell? ⟨gd, 0, none⟩ = some (.slice Aa xs.length ca) := cell_of_heap hgdx
                  have d1 : wx.cell? ⟨gd, 1, none⟩ = some (.slice Ba ys.length cb) := cell_of_heap hgdx
                  obtain ⟨W2, hW2⟩ : ∃ W, W = wx.alloc (.cells #[.slice Aa xs.length ca, .slice Ba ys.length cb] 22) := ⟨_, rfl⟩
                  have k3 : Old wx W2 := by rw [hW2]; exact (Keeps.refl _ _).alloc _
                  have hb2 : W2.heap[wx.heap.size]? = some (.cells #[.slice Aa xs.length ca, .slice Ba ys.length cb] 22 (0, 0)) := by rw [hW2]; exact heap_alloc_new _ _
                  have K13 := K12.trans' k3
                  have hrow := own_keeps hU.all.row K13 (fun _ _ => trivial)
                  go_upto_region 18 with (at_builtin; rw [← hW2]; refine wpList_append_ex _ (by rfl) _ _ 35 22 (by rfl) Tryd.underlying35 info22 (by rfl) (by omega) (by rfl) hrow (some ⟨wx.heap.size, 0, none⟩) 2 2 [.slice Aa xs.length ca, .slice Ba ys.length cb] (by rfl) (by rfl) (fun _ => ⟨_, rfl, World.news_of_block hb2⟩) (by intro u hu; simp at hu; rcases hu with rfl | rfl <;> rfl) (by omega) (by unfold maxLen; omega) ?_; intro v6 w6 hown6 hgrow6 hat6)
                  obtain ⟨A6, c6, hv6, _, _⟩ := own_slice hown6
                  subst hv6
                  have KA6 : Keeps (fun i => (Value.slice AA qa.length cA).ownBlock ≠ some i) W2 w6 := (Keeps.refl _ W2).grown hgrow6 (fun i _ h hn => hn h)
                  obtain ⟨W4, hW4⟩ : ∃ W, W = w6.alloc (.cells #[.slice AL ql.length cL] 35) := ⟨_, rfl⟩
                  have k4 : Old w6 W4 := by rw [hW4]; exact (Keeps.refl _ _).alloc _
                  have hb4 : W4.heap[w6.heap.size]? = some (.cells #[.slice AL ql.length cL] 35 (0, 0)) := by rw [hW4]; exact heap_alloc_new _ _
                  have hrow2 := own_keeps (own_keeps (own_keeps hU.row K13 (fun _ _ => trivial)) KA6 (fun i hi e => own_ne hU.row hU.all.row (by decide) hi e)) k4 (fun _ _ => trivial)
                  go_upto_region 19 with (at_builtin; rw [← hW4]; refine wpList_append_ex _ (by rfl) _ _ 57 35 (by rfl) Tryd.underlying57 info35B (by rfl) (by omega) (by rfl) hrow2 (some ⟨w6.heap.size, 0, none⟩) 1 1 [.slice AL ql.length cL] (by rfl) (by rfl) (fun _ => ⟨_, rfl, World.news_of_block hb4⟩) (one_one rfl) (by omega) (by unfold maxLen; omega) ?_; intro v8 w8 hown8 hgrow8 hat8)
                  obtain ⟨A8, c8, hv8, _, _⟩ := own_slice hown8
                  subst hv8
                  have zd := k1.size
                  have z2 := k2.size
                  obtain ⟨hS1, hS2, hS3⟩ := hU.step (hold.size) K12 (hA.keep (k2.old _)) (hB.keep (k2.old _)) hAB hlx hly hoL (fun i hi => by
                    have := hFL i hi
                    exact ⟨by omega, this.2, fun e => by have := own_lt hA.row e; omega, fun e => by have := own_lt hB.row e; omega⟩) hqL hqs k3 hown6 hgrow6 hat6 k4 hown8 hgrow8 hat8
                  have hgd6 := KA6.heap (k3.heap hgdx trivial) (fun e => own_ne_heap hrow (k3.heap hgdx trivial) (by decide) e)
                  have KR8 : Keeps (fun i => (Value.slice AR es.length cR).ownBlock ≠ some i) W4 w8 := (Keeps.refl _ W4).grown hgrow8 (fun i _ h hn => hn h)
                  have hgd8 := KR8.heap (k4.heap hgd6 trivial) (fun e => own_ne_heap hrow2 (k4.heap hgd6 trivial) (by decide) e)
                  have e0 : w8.cell? ⟨gd, 0, none⟩ = some (.slice Aa xs.length ca) := cell_of_heap hgd8
                  have e1 : w8.cell? ⟨gd, 1, none⟩ = some (.slice Ba ys.length cb) := cell_of_heap hgd8
                  have hXg := hX go (.inr rfl)
                  have hXp := hX pa (.inl hP.1)
                  have hbg8 := hS2.heap hbg ⟨hXg.2.2.1, hXg.2.2.2.1⟩
                  have hbp8 := hS2.heap hbp ⟨hXp.2.2.1, hXp.2.2.2.1⟩
                  have HR := hid (show InUn (fun i => i = go) w pa (k + 1) (2 * k + (r + 1)) (.slice A6 (qa.length + 2) c6) (.slice A8 (es.length + 1) c8) w8 from by
                    refine ⟨H, _, some j2, _, _, hP.keep (hS2.mono fun i _ hi => ⟨(hX i (.inl hi)).2.2.1, (hX i (.inl hi)).2.2.2.1⟩), hws, hS1, by rw [List.length_append]; show qa.length + 2 ≤ _; omega, by rw [List.length_append]; show es.length + 1 ≤ _; omega, hold.trans hS2 fun i hi _ => ⟨fun hf => by have := hU.fa i hf; omega, fun e => by have := hU.fr i e; omega⟩, fun i hi => ?_⟩
                    obtain ⟨x0, x1, x2, x3, x4⟩ := hX i hi
                    obtain ⟨⟨s1, s2, s3⟩, s4, s5⟩ := hS3 i x1 x2 x3
                    have := hS2.size
                    refine ⟨x0, by omega, fun hf => ?_, s4, fun e he hf => ?_⟩
                    · rcases hf with hf | hf | hf | hf
                      · exact x2 hf
                      · exact s1 hf
                      · exact s2 hf
                      · exact s3 hf
                    · rcases List.mem_append.1 he with he | he
                      · exact x4 e he hf
                      · obtain rfl : e = (_, ql, FL) := by simpa using he
                        exact s5 hf)
                  clear hS1 hS2 hS3 hown6 hown8 hgrow6 hgrow8 hat6 hat8 hrow hrow2 hU hP hX hold hA hB hAB hoL hFL KA6 KR8 hb2 hb4 k1 k2 k3 k4 K12 K13 hgd6 hXg hXp d0 d1 hgdx
                  go_wp2
                  exact ⟨⟨r + 1, _, by go_num, by omega, rfl, hbg8, hbp8, HR⟩, by simp [intOf]; omega⟩
                · obtain rfl : r = 2 := by omega
                  have j1 : ¬ ((2 : Nat) : Int) < 2 := by omega
                  go_wp2
                  go_meet
                  exact ⟨⟨h2, rfl⟩, hbg, hin⟩
          case rest =>
          obtain ⟨⟨h2, rfl⟩, hba2, hin2⟩ := hcut
          clear HSA hba y0
          obtain ⟨H, FA, o, qa, es, hP, hws, hU, hql, hel, hold, hX⟩ := hin2.out
          obtain ⟨h6, h7, h8, h9, h10⟩ := HOP.out
          have hpl := plays_any wc H S pa o kd x.n A1 B1 c1 d1 x.one x.many hP (h7.keep (hold.old _)) (h8.keep (hold.old _)) h6 (fun i hi => ⟨by have := hS i hi; have := hold.size; omega, fun hh => by have := hX i (.inl hh); have := hS i hi; omega⟩) h9 h10 (hT.keep (hold.old (fun _ => True)) trivial) (fun hh => by have := hX 0 (.inl hh); omega) (by omega)
          have y0 : wc.cell? ⟨go, 0, none⟩ = some (.int .i64 kd) := cell_of_heap hba2
          have y1 : wc.cell? ⟨go, 1, none⟩ = some (.slice A1 x.one.length c1) := cell_of_heap hba2
          have y2 : wc.cell? ⟨go, 2, none⟩ = some (.slice B1 x.many.length d1) := cell_of_heap hba2
          have y3 : wc.cell? ⟨go, 3, none⟩ = some (.int .i64 x.n) := cell_of_heap hba2
          have HY := hid (And.intro hU (And.intro hold hX))
          clear hP hU hold hX h6 h7 h8 h9 h10
          go_wp2_with fail
          refine hpl.mono ?_
          rintro e w9 hpo
          obtain rfl := hpo.1
          obtain ⟨_, H2, o2, hP2, hH2, k9, hw2⟩ := hpo
          have HR := hid (show InUn (fun _ => False) w pa (k + 1 + 1) (2 * (k + 1)) _ _ w9 from by
            obtain ⟨hU, hold, hX⟩ := HY.out
            have hz := k9.size
            have hzo := hold.size
            refine ⟨H2, FA, o2, qa, es, hP2, by omega, hU.keep (k9.mono fun i _ hi hh => ?_), by omega, by omega, hold.trans k9 fun i hi _ hh => by have := hX i (.inl hh); omega, fun i hi => ?_⟩
            · obtain ⟨_, _, x2, x3, x4⟩ := hX i (.inl hh)
              rcases hi with hi | hi | ⟨e, he, hi⟩
              · exact x2 hi
              · exact x3 hi
              · exact x4 e he hi
            · rcases hi with hi | hi
              · have hl9 := hP2.2.1 i hi
                rcases hH2 i hi with h' | h'
                · obtain ⟨x0, x1, x2⟩ := hX i (.inl h')
                  exact ⟨x0, hl9, x2⟩
                · refine ⟨by omega, hl9, fun hf => by have := hU.fa i hf; omega, fun e => by have := own_lt hU.row e; omega, fun e he hf => ?_⟩
                  have := (hU.each e he).2.2.2 i hf
                  omega
              · exact hi.elim)
          clear hP2 hH2 k9 hw2 hpl y0 y1 y2 y3 hba2
          go_wp2
          exact ⟨⟨k + 1, h2, by go_num, by omega, rfl, HR⟩, by simp [intOf]; omega⟩
      · have i1 : ¬ (k : Int) < (l.length : Int) := by omega
        clear hP hU hold hX
        go_wp2
        go_meet
        exact ⟨k, hk, hin⟩
  case rest =>
  obtain ⟨k, hk, hin⟩ := hcut
  obtain ⟨wb0, hwb0⟩ : ∃ W, W = wc := ⟨_, rfl⟩
  subst hwb0
  obtain ⟨H, FA, o, qa, es, hP, hws, hU, hql, hel, hold, hX⟩ := hin.out
  clear hin HS
  obtain ⟨AA, cA, hvA, _, _⟩ := own_slice hU.all.row
  subst hvA
  obtain ⟨AR, cR, hvR, _, _⟩ := own_slice hU.row
  subst hvR
  obtain ⟨pb, hpb⟩ : ∃ pb, pb = wb0.heap.size := ⟨_, rfl⟩
  obtain ⟨W6, hW6⟩ : ∃ W, W = wb0.alloc (.cells #[.slice none 0 0, .slice none 0 0, .int .i64 0, .slice none 0 0] 83) := ⟨_, rfl⟩
  have k6 : Old wb0 W6 := by rw [hW6]; exact (Keeps.refl _ _).alloc _
  have hBk : Bk (fun i => i < wb0.heap.size) pb 0 0 W6 := by rw [hW6, hpb]; exact Bk.new _ fun _ h => h
  have hU6 := hU.keep (k6.old _)
  have hP6 := hP.keep (k6.old _)
  have hO6 := hold.trans' k6
  have hz := hold.size
  -- what is not of a kind is left alone
  have hFq : ∀ i, FA i ∨ H i ∨ (Value.slice AR es.length cR).ownBlock = some i ∨ (∃ e ∈ es, e.2.2 i) ∨ i < w.heap.size → i < wb0.heap.size := fun i hi => by
    rcases hi with h | h | h | ⟨e, he, h⟩ | h
    · exact (hU.fa i h).2.1
    · exact hP.2.1 i h
    · exact own_lt hU.row h
    · exact ((hU.each e he).2.2.2 i h).2.1
    · omega
  have hNq : ∀ i, (H i ∨ (Value.slice AR es.length cR).ownBlock = some i ∨ (∃ e ∈ es, e.2.2 i) ∨ i < w.heap.size) → ∀ y ∈ qa, y.2.ownBlock ≠ some i := fun i hi y hy e => by
    have hf := (hU.all.own y hy).foot i e
    rcases hi with h | h | ⟨e', he, h⟩ | h
    · exact (hX i (.inl h)).2.2.1 hf
    · exact (hU.fa i hf).2.2 h
    · exact ((hU.each e' he).2.2.2 i h).2.2.1 hf
    · have := (hU.fa i hf).1; omega
  have hAq : ∀ i, (Value.slice AA qa.length cA).ownBlock = some i → i < wb0.heap.size ∧ ∀ y ∈ qa, y.2.ownBlock ≠ some i := fun i hi => ⟨own_lt hU.all.row hi, fun y hy e => own_ne (hU.all.own y hy).row hU.all.row (by decide) e hi⟩
  have HS3 := hid (show InUn3 qa wb0.heap.size pb 0 W6 W6 from ⟨(hBk.less fun i hi => hi.1).more (by omega) (by rw [sz3_zero]; omega), Keeps.refl _ _⟩)
  have HB := hid (And.intro hU6 (And.intro hP6 (And.intro hO6 (And.intro hX (And.intro hFq (And.intro hNq (And.intro hAq (And.intro hws hz))))))))
  have iql : qa.length ≤ 838864 := by omega
  have iel : es.length ≤ 419432 := by omega
  clear hU hP hX hold hBk hU6 hP6 hO6 hFq hNq hAq k6 hws hz hql hel
  go_upto_region 23 with fail
  rw [← hW6, ← hpb]
  have HPB := hid hpb
  clear hW6 hpb
  go_upto_block 4 with fail
  go_cut [] (fun wx => Hid (InUn3 qa wb0.heap.size pb qa.length W6 wx))
  case first =>
    go_wp2
    go_loopw [17] (fun v wr => ∃ r : Nat, v = .int .i64 r ∧ r ≤ qa.length ∧ Hid (InUn3 qa wb0.heap.size pb r W6 wr)) (fun v _ => qa.length - (intOf v).toNat)
    case atStart => exact ⟨0, rfl, Nat.zero_le _, HS3⟩
    case round =>
      clear HS3
      obtain ⟨r, rfl, hr, hin⟩ := hrel
      have i0 : (0 : Int) ≤ (r : Int) := by omega
      by_cases hlt : r < qa.length
      · have i1 : (r : Int) < (qa.length : Int) := by omega
        obtain ⟨hBk, hkk⟩ := hin.out
        obtain ⟨hU6, hP6, hO6, hX, hFq, hNq, hAq, hws, hz⟩ := HB.out
        have hsub : ∀ i, (i < wb0.heap.size ∧ ∀ y ∈ qa, y.2.ownBlock ≠ some i) → (i < wb0.heap.size ∧ ∀ y ∈ qa.take r, y.2.ownBlock ≠ some i) := fun i h => ⟨h.1, fun y hy => h.2 y (List.mem_of_mem_take hy)⟩
        have hrow := own_keeps hU6.all.row hkk fun i hi => hsub i (hAq i hi)
        obtain ⟨gA, cA2, hvv, _, _, hcl⟩ := own_cells hrow (by omega)
        injection hvv with hAA _ hcA
        subst hAA hcA
        have hcell : wr.cell? ⟨gA, r, none⟩ = some qa[r].2 := by rw [hcl r (by omega), List.getElem?_map, List.getElem?_eq_getElem hlt]; rfl
        have hown := hU6.all.own _ (List.getElem_mem hlt)
        have hdis := List.pairwise_iff_getElem.1 hU6.all.dis
        have hgr : ∀ i, qa[r].2.ownBlock = some i → i < wb0.heap.size ∧ ∀ y ∈ qa.take r, y.2.ownBlock ≠ some i := fun i hi => ⟨(hFq i (.inl (hown.foot i hi))), fun y hy e => by
          obtain ⟨a, ha, rfl⟩ := List.getElem_of_mem hy
          rw [List.length_take] at ha
          rw [List.getElem_take] at e
          exact hdis a r (by omega) hlt (by omega) i e hi⟩
        have hown2 := hown.own_.keep (hkk.mono fun i _ hi => hgr i hi)
        have hlq := hU6.lens _ (List.getElem_mem hlt)
        have hsz := sz3_le (r := r) (by omega)
        have hk5 := keep_bk hBk (by omega) (by omega) (KeepR.ofOwn hown2 hgr) (by omega)
        obtain ⟨Aq, cq, hvq, _, _⟩ := hown.slice
        rw [hvq] at hcell hk5
        have HQ := hid (And.intro hvq (And.intro hlq hsz))
        have HIN := hid hkk
        clear hBk hkk hU6 hP6 hO6 hX hFq hNq hAq hws hz hrow hcl hown hdis hgr hown2 hsub hin hvq hlq hsz
        go_wp2_with fail
        refine hk5.mono ?_
        rintro e w7 ⟨rfl, hB7, k7⟩
        clear hk5
        have HR := hid (show InUn3 qa wb0.heap.size pb (r + 1) W6 w7 from by
          obtain ⟨hvq, hlq, hsz⟩ := HQ.out
          have hkk := HIN.out
          rw [← hvq] at hB7 k7
          have hs : ∀ i, (i < wb0.heap.size ∧ ∀ y ∈ qa.take (r + 1), y.2.ownBlock ≠ some i) → (i < wb0.heap.size ∧ ∀ y ∈ qa.take r, y.2.ownBlock ≠ some i) ∧ qa[r].2.ownBlock ≠ some i := fun i hi => ⟨⟨hi.1, fun y hy => hi.2 y (List.take_subset_take_left qa (by omega) hy)⟩, hi.2 qa[r] (by rw [List.take_succ_eq_append_getElem hlt]; exact List.mem_append_right _ (List.mem_singleton.2 rfl))⟩
          exact ⟨(hB7.less hs).more (by first | omega | (rw [n4_succ]; omega)) (by first | (rw [sz3_succ]; omega) | (rw [sz4_succ]; omega)), (hkk.mono fun i _ hi => (hs i hi).1).trans' (k7.mono fun i _ hi => hs i hi)⟩)
        clear hB7 k7
        go_wp2
        exact ⟨⟨r + 1, by go_num, by omega, HR⟩, by simp [intOf]; omega⟩
      · obtain rfl : r = qa.length := by omega
        have i1 : ¬ ((qa.length : Nat) : Int) < (qa.length : Int) := by omega
        go_wp2
        go_meet
        exact hin
  case rest =>
  have hin3 := hcut.out
  clear hcut HS3
  obtain ⟨hBk, hkk⟩ := hin3
  have HS4 := hid (show InUn4 qa es wb0.heap.size pb 0 wc wc from by
    refine ⟨(hBk.less fun i hi => ⟨hi.1.1, fun y hy => hi.1.2 y (List.mem_of_mem_take hy)⟩).more (by rw [n4_zero]; omega) (by rw [sz4_zero]; omega), Keeps.refl _ _⟩)
  have HK3 := hid (hkk.mono fun i _ (h : i < wb0.heap.size ∧ ∀ y ∈ qa, y.2.ownBlock ≠ some i) => (⟨h.1, fun y hy => h.2 y (List.mem_of_mem_take hy)⟩ : i < wb0.heap.size ∧ ∀ y ∈ qa.take qa.length, y.2.ownBlock ≠ some i))
  clear hBk hkk
  go_upto_block 6 with fail
  go_cut [] (fun wx => Hid (InUn4 qa es wb0.heap.size pb es.length wc wx))
  case first =>
    go_wp2
    go_loopw [18] (fun v wr => ∃ r : Nat, v = .int .i64 r ∧ r ≤ es.length ∧ Hid (InUn4 qa es wb0.heap.size pb r wc wr)) (fun v _ => es.length - (intOf v).toNat)
    case atStart => exact ⟨0, rfl, Nat.zero_le _, HS4⟩
    case round =>
      clear HS4
      obtain ⟨r, rfl, hr, hin⟩ := hrel
      have i0 : (0 : Int) ≤ (r : Int) := by omega
      by_cases hlt : r < es.length
      · have i1 : (r : Int) < (es.length : Int) := by omega
        obtain ⟨hBk, hkk⟩ := hin.out
        obtain ⟨hU6, hP6, hO6, hX, hFq, hNq, hAq, hws, hz⟩ := HB.out
        have KK := (HK3.out.mono fun i _ (h : (i < wb0.heap.size ∧ ∀ y ∈ qa, y.2.ownBlock ≠ some i) ∧ ∀ e ∈ es.take r, ¬ e.2.2 i) => h.1).trans' hkk
        have hrow := own_keeps hU6.row KK fun i hi => ⟨⟨hFq i (.inr (.inr (.inl hi))), hNq i (.inr (.inl hi))⟩, fun e he hf => ((hU6.each e (List.mem_of_mem_take he)).2.2.2 i hf).2.2.2 hi⟩
        obtain ⟨gR, cR2, hvv, _, _, hcl⟩ := own_cells hrow (by omega)
        injection hvv with hAR _ hcR
        subst hAR hcR
        have hcell : wr.cell? ⟨gR, r, none⟩ = some es[r].1 := by rw [hcl r (by omega), List.getElem?_map, List.getElem?_eq_getElem hlt]; rfl
        have hme := List.getElem_mem hlt
        obtain ⟨hown, hq1, hq2, hq3⟩ := hU6.each _ hme
        have hdis := List.pairwise_iff_getElem.1 hU6.dis
        have hgr : ∀ i, es[r].2.2 i → (i < wb0.heap.size ∧ ∀ y ∈ qa, y.2.ownBlock ≠ some i) ∧ ∀ e ∈ es.take r, ¬ e.2.2 i := fun i hi => ⟨⟨hFq i (.inr (.inr (.inr (.inl ⟨_, hme, hi⟩)))), hNq i (.inr (.inr (.inl ⟨_, hme, hi⟩)))⟩, fun e he hf => by
          obtain ⟨a, ha, rfl⟩ := List.getElem_of_mem he
          rw [List.length_take] at ha
          rw [List.getElem_take] at hf
          exact hdis a r (by omega) hlt (by omega) i hf hi⟩
        have hown2 := hown.keep (KK.mono fun i _ hi => hgr i hi)
        have hsum := keepSum_le' (q := es[r].2.1) (B := 65536) hq2
        have hprod : es[r].2.1.length * (65536 + 400) ≤ 6593600000 := Nat.le_trans (Nat.mul_le_mul_right _ hq1) (by decide)
        have hsum := Nat.le_trans hsum hprod
        have hsz := sz4_le (r := r) (by omega)
        have hsz2 := sz3_le (r := qa.length) (by omega)
        have hn4 := n4_le (r := r) (by omega)
        have hk5 := keepAll_bk hBk (by omega) (by omega) hown2 hgr (by omega) (fun y hy => by have := hq2 y hy; omega) (by omega)
        obtain ⟨Aq, cq, hvq, _, _⟩ := own_slice hown.row
        rw [hvq] at hcell hk5
        have HQ := hid (And.intro hq1 (And.intro hsum (And.intro hprod (And.intro hsz hsz2))))
        have HIN := hid hkk
        clear hBk hkk hU6 hP6 hO6 hX hFq hNq hAq hws hz hrow hcl hown hdis hgr hown2 hin hvq hq1 hq2 hq3 hsum hprod hsz hsz2 hn4 hme KK
        go_wp2_with fail
        refine hk5.mono ?_
        rintro e w7 ⟨rfl, hB7, k7⟩
        clear hk5
        have HR := hid (show InUn4 qa es wb0.heap.size pb (r + 1) wc w7 from by
          obtain ⟨hq1, hsum, hprod, hsz, hsz2⟩ := HQ.out
          have hkk := HIN.out
          have hs : ∀ i, ((i < wb0.heap.size ∧ ∀ y ∈ qa, y.2.ownBlock ≠ some i) ∧ ∀ e ∈ es.take (r + 1), ¬ e.2.2 i) → ((i < wb0.heap.size ∧ ∀ y ∈ qa, y.2.ownBlock ≠ some i) ∧ ∀ e ∈ es.take r, ¬ e.2.2 i) ∧ ¬ es[r].2.2 i := fun i hi => ⟨⟨hi.1, fun e he => hi.2 e (List.take_subset_take_left es (by omega) he)⟩, hi.2 es[r] (by rw [List.take_succ_eq_append_getElem hlt]; exact List.mem_append_right _ (List.mem_singleton.2 rfl))⟩
          exact ⟨(hB7.less hs).more (by first | omega | (rw [n4_succ]; omega)) (by first | (rw [sz3_succ]; omega) | (rw [sz4_succ]; omega)), (hkk.mono fun i _ hi => (hs i hi).1).trans' (k7.mono fun i _ hi => hs i hi)⟩)
        clear hB7 k7
        go_wp2
        exact ⟨⟨r + 1, by go_num, by omega, HR⟩, by simp [intOf]; omega⟩
      · obtain rfl : r = es.length := by omega
        have i1 : ¬ ((es.length : Nat) : Int) < (es.length : Int) := by omega
        go_wp2
        go_meet
        exact hin
  case rest =>
  obtain ⟨hBk, hkk⟩ := hcut.out
  clear hcut HS4
  rw [List.take_length] at hBk hkk
  obtain ⟨hU6, hP6, hO6, hX, hFq, hNq, hAq, hws, hz⟩ := HB.out
  have KK := (HK3.out.mono fun i _ (h : (i < wb0.heap.size ∧ ∀ y ∈ qa, y.2.ownBlock ≠ some i) ∧ ∀ e ∈ es, ¬ e.2.2 i) => h.1).trans' hkk
  have hcw := whole_bk hBk (by have := n4_le (r := es.length) (by omega); omega)
  have hHR : ∀ i, H i → (i < wb0.heap.size ∧ ∀ y ∈ qa, y.2.ownBlock ≠ some i) ∧ ∀ e ∈ es, ¬ e.2.2 i := fun i hi => ⟨⟨hFq i (.inr (.inl hi)), hNq i (.inl hi)⟩, (hX i (.inl hi)).2.2.2.2⟩
  have hLR : ∀ i, i < w.heap.size → (i < wb0.heap.size ∧ ∀ y ∈ qa, y.2.ownBlock ≠ some i) ∧ ∀ e ∈ es, ¬ e.2.2 i := fun i hi => ⟨⟨hFq i (.inr (.inr (.inr (.inr hi)))), hNq i (.inr (.inr (.inr hi)))⟩, fun e he hf => by have := ((hU6.each e he).2.2.2 i hf).1; omega⟩
  have hPc := hP6.keep (KK.mono fun i _ hi => hHR i hi)
  have hOc : Old w wc := hO6.trans KK fun i hi _ => hLR i hi
  have hpl := fun (W : World) (hW : Old wc W) => plays_any W H (fun _ => False) pa o 6 1073741824 none none 0 0 [] [] (hPc.keep (hW.old _)) (Bts.nil _ _ _) (Rcs.nil _ _ _) (by simp) (fun _ h => h.elim) (by omega) (by omega) (hT.keep ((hOc.trans' hW).old (fun _ => True)) trivial) (fun h => by have := (hX 0 (.inl h)).1; omega) (by omega)
  have hpl : ∀ (W : World), Old wc W → Calls Tryd.prog 36 #[.pointer (some ⟨pa, 0, none⟩), .agg #[.int .i64 6, .slice none 0 0, .slice none 0 0, .int .i64 1073741824]] W (PostPlays H W pa o) := hpl
  have HPL := hid hpl
  have HXX := hid (And.intro hX hOc)
  clear hBk hkk hU6 hP6 hO6 hX hFq hNq hAq hws hz KK hHR hLR hPc hOc hpl
  go_wp2_with fail
  refine hcw.mono ?_
  rintro e w8 ⟨rfl, k8⟩
  clear hcw
  have hp2 := HPL.out w8 k8
  go_wp2_with fail
  refine hp2.mono ?_
  rintro e w9 ⟨rfl, H9, o9, _, _, k9, _⟩
  clear hp2
  have HR := hid (show Old w w9 from by
    obtain ⟨hX, hOc⟩ := HXX.out
    exact (hOc.trans' k8).trans k9 fun i hi _ hh => by have := (hX i (.inl hh)).1; omega)
  clear k9 k8
  go_wp2
  go_ret
  exact ⟨rfl, HR.out⟩
end Go.Proofs.YtdpaaoeipconcaaDoor
