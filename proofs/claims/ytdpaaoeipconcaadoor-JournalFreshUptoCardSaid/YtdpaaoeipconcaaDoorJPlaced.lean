/- weftlaw12.placed: a script whose records are handed in always in the same places. Conditions: the disk and the script can be read, the table lies, the script is of small bulk. -/
import Derived.Test.YtdpaaoeipconcaaDoorMPut
import Derived.Test.YtdpaaoeipconcaaDoorJHolds
namespace Go.Proofs.YtdpaaoeipconcaaDoor
open Go.RowKit

/-- A script of small bulk. -/
def SmallOps (l : List OpJ) : Prop := l.length ≤ 1048576 ∧ ∀ x ∈ l, x.one.length ≤ 1048576 ∧ x.many.length ≤ 1048576 ∧ ∀ r ∈ x.many, r.length ≤ 1048576

/-- a pair and a place, apart, both in new blocks -/
def InPlaced (w : World) (p t n : Nat) (wr : World) : Prop :=
  ∃ H o P vO vI outs inn, PairAt H wr p o ∧ PlaceM P wr t vO vI outs inn ∧ (∀ k, H k → ¬ P k) ∧ (∀ k, H k → w.heap.size ≤ k) ∧ (∀ k, P k → w.heap.size ≤ k) ∧ Old w wr ∧ wsN o ≤ n

theorem placed_join {H P : Nat → Prop} {w w1 w3 : World} {p t n : Nat} {o : Option Jn} {vO vI : Value} {outs inn : List Value} {e : Ending} (h : PostPlays H w1 p o e w3) (hM : PlaceM P w1 t vO vI outs inn) (hHP : ∀ k, H k → ¬ P k) (hH0 : ∀ k, H k → w.heap.size ≤ k) (hP0 : ∀ k, P k → w.heap.size ≤ k) (hold : Old w w1) (hws : wsN o ≤ n) :
    InPlaced w p t (n + 1) w3 := by
  obtain ⟨_, H', o', hP', hH', hk, hw⟩ := h
  have hz := hold.size
  refine ⟨H', o', P, vO, vI, outs, inn, hP', hM.keep (hk.mono fun k _ hp hh => hHP k hh hp), fun k hh hp => ?_, fun k hh => ?_, hP0, hold.trans hk fun k hkw _ hh => by have := hH0 k hh; omega, by omega⟩
  · rcases hH' k hh with h' | h'
    · exact hHP k h' hp
    · have := hM.lt k hp; omega
  · rcases hH' k hh with h' | h'
    · exact hH0 k h'
    · omega

theorem PlaceM.new (w : World) : PlaceM (· = w.heap.size) (w.alloc (.cells #[.slice none 0 0, .slice none 0 0] 119)) w.heap.size (.slice none 0 0) (.slice none 0 0) [] [] :=
  ⟨heap_alloc_new _ _, World.ownsRow_nil _ _ _ _, by simp [Value.ownBlock], World.ownsRow_nil _ _ _ _, by simp [Value.ownBlock], by simp, rfl, fun k hk => by rw [hk]; simp, by simp [Value.ownBlock], List.Pairwise.nil⟩

set_option maxRecDepth 10000 in
set_option maxHeartbeats 16000000 in
theorem placed_any (w : World) (S : Nat → Prop) (A B : Option Addr) (n m c d : Nat) (xs ys : List UInt8) (ha : Bts S w A xs) (hb : Bts S w B ys) (hn : n = xs.length) (hm : m = ys.length) (hc : n ≤ c) (hd : m ≤ d)
    (C : Option Addr) (cc : Nat) (l : List OpJ) (hO : Ops S w C l) (hS : ∀ k, S k → k < w.heap.size) (hT : Tab w) (hsl : SmallOps l) :
    Calls Tryd.prog 54 #[.agg #[.slice A n c, .slice B m d], .slice C l.length cc] w fun e w' => e = .returned (.bool true) ∧ Old w w' := by
  obtain ⟨W0, hW0⟩ : ∃ W, W = w.alloc (.cells #[.slice A n c, .slice B m d] 24) := ⟨_, rfl⟩
  have k0 : Old w W0 := by rw [hW0]; exact (Keeps.refl _ _).alloc _
  have hb0 : W0.heap[w.heap.size]? = some (.cells #[.slice A n c, .slice B m d] 24 (0, 0)) := by rw [hW0]; exact heap_alloc_new _ _
  have HN := hid hn
  have HM := hid hm
  have hl0 := hO.1
  have hpos := hT.pos
  clear hn hm
  go_enter Tryd.func54, Tryd.ntmps54
  go_upto_region 1 with fail
  rw [← hW0]
  clear hW0
  obtain ⟨W1, hW1⟩ : ∃ W, W = W0.alloc (.cells #[.pointer none, .pointer none] 29) := ⟨_, rfl⟩
  have k2 : Old W0 W1 := by rw [hW1]; exact (Keeps.refl _ _).alloc _
  have hp1 : W1.heap[W0.heap.size]? = some (.cells #[.pointer none, .pointer none] 29 (0, 0)) := by rw [hW1]; exact heap_alloc_new _ _
  have K1 := k0.trans' k2
  have hb1 := k2.heap hb0 trivial
  have b0 : W1.cell? ⟨w.heap.size, 0, none⟩ = some (.slice A n c) := cell_of_heap hb1
  have b1 : W1.cell? ⟨w.heap.size, 1, none⟩ = some (.slice B m d) := cell_of_heap hb1
  obtain ⟨pa, hpa⟩ : ∃ p, p = W0.heap.size := ⟨_, rfl⟩
  rw [← hpa] at hp1
  have hpo := popen_any W1 S pa _ _ A B n m c d xs ys hp1 (ha.keep (K1.old _)) (hb.keep (K1.old _)) HN.out HM.out hc hd (hT.keep (K1.old (fun _ => True)) trivial)
  have z0 := k0.size
  have z1 := k2.size
  go_upto_region 2 with fail
  rw [← hW1, ← hpa]
  have HPA := hid hpa
  clear hW1 hpa
  go_wp2_with fail
  refine hpo.mono ?_
  rintro e w4 ⟨rfl, H, hP, hH, k4⟩
  clear hpo b0 b1
  have hpge : w.heap.size ≤ pa := by have := HPA.out; omega
  have hH0 : ∀ k, H k → w.heap.size ≤ k := fun k hk => by
    rcases hH k hk with h | h
    · omega
    · omega
  have K4 : Old w w4 := K1.trans k4 fun k hk _ => by show k ≠ pa; omega
  have hws : wsN ((openJ (xs, ys)).map (·.1)) ≤ 1 := by
    cases ho : openJ (xs, ys) with
    | none => exact Nat.zero_le _
    | some jr => exact (open_down (j := jr.1) (recs := jr.2) ho).2
  generalize (openJ (xs, ys)).map (·.1) = o0 at *
  obtain ⟨W5, hW5⟩ : ∃ W, W = w4.alloc (.cells #[.slice none 0 0, .slice none 0 0] 119) := ⟨_, rfl⟩
  have k5 : Old w4 W5 := by rw [hW5]; exact (Keeps.refl _ _).alloc _
  have hM5 := PlaceM.new w4
  rw [← hW5] at hM5
  obtain ⟨t, ht⟩ : ∃ t, t = w4.heap.size := ⟨_, rfl⟩
  have z4 := K4.size
  have HS := hid (show InPlaced w pa t 1 W5 from ⟨H, o0, _, _, _, [], [], hP.keep (k5.old _), by rw [ht]; exact hM5, fun k hk e => by have h1 := hP.2.1 k hk; have e' : k = w4.heap.size := e; omega, hH0, fun k hk => by have e' : k = w4.heap.size := hk; omega, K4.trans' k5, hws⟩)
  go_upto_region 5 with fail
  rw [← hW5, ← ht]
  clear hW5 hM5 ht hH0 hH hP K4 k4 K1 k2 k0 hb0 hb1 hp1 k5 z0 z1 z4 HPA
  go_wp2
  go_loopw [7, 8, 9, 10, 11, 12, 13] (fun v _ _ _ _ _ _ wr => ∃ k : Nat, v = .int .i64 k ∧ k ≤ l.length ∧ Hid (InPlaced w pa t (2 * k + 1) wr)) (fun v _ _ _ _ _ _ _ => l.length - (intOf v).toNat)
  case atStart => exact ⟨0, rfl, Nat.zero_le _, HS⟩
  case round =>
    clear HS
    obtain ⟨k, rfl, hk, hin⟩ := hrel
    have i0 : (0 : Int) ≤ (k : Int) := by omega
    obtain ⟨H, o, P, vO, vI, outs, inn, hPr, hM, hHP, hH0, hP0, hold, hws⟩ := hin.out
    clear hin
    have hzo := hold.size
    by_cases hlt : k < l.length
    · have i1 : (k : Int) < (l.length : Int) := by omega
      have hsm := hsl.2 l[k] (List.getElem_mem hlt)
      obtain ⟨b, off, rfl, hSb, A1, c1, B1, d1, h0, h1, h2, h3, h4, h5, h6, h7, h8, h9, h10⟩ := hO.at_ (j := k) hlt
      generalize l[k] = x at *
      obtain ⟨kd, hkd⟩ : ∃ kd, kd = x.kind := ⟨_, rfl⟩
      rw [← hkd] at h0
      have HKD := hid hkd
      clear hkd
      replace h0 := ((hold.old S).cell (lt_of_cell h0) hSb).trans h0
      replace h1 := ((hold.old S).cell (lt_of_cell h1) hSb).trans h1
      replace h2 := ((hold.old S).cell (lt_of_cell h2) hSb).trans h2
      replace h3 := ((hold.old S).cell (lt_of_cell h3) hSb).trans h3
      have hSP : ∀ i, S i → ¬ P i ∧ ¬ H i ∧ i < w.heap.size := fun i hi => ⟨fun hp => by have := hP0 i hp; have := hS i hi; omega, fun hp => by have := hH0 i hp; have := hS i hi; omega, hS i hi⟩
      obtain ⟨g, hg⟩ : ∃ g, g = wr.heap.size := ⟨_, rfl⟩
      obtain ⟨wa, hA⟩ : ∃ wa, wa = wr.alloc (.cells #[.int .i64 kd, .slice A1 x.one.length c1, .slice B1 x.many.length d1, .int .i64 x.n] 54) := ⟨_, rfl⟩
      have ka : Old wr wa := by rw [hA]; exact (Keeps.refl _ _).alloc _
      have hba : wa.heap[g]? = some (.cells #[.int .i64 kd, .slice A1 x.one.length c1, .slice B1 x.many.length d1, .int .i64 x.n] 54 (0, 0)) := by rw [hA, hg]; exact heap_alloc_new _ _
      have hza := ka.size
      have y0 : wa.cell? ⟨g, 0, none⟩ = some (.int .i64 kd) := cell_of_heap hba
      have y1 : wa.cell? ⟨g, 1, none⟩ = some (.slice A1 x.one.length c1) := cell_of_heap hba
      have y2 : wa.cell? ⟨g, 2, none⟩ = some (.slice B1 x.many.length d1) := cell_of_heap hba
      have y3 : wa.cell? ⟨g, 3, none⟩ = some (.int .i64 x.n) := cell_of_heap hba
      go_upto_region 9 with fail
      rw [← hA, ← hg]
      have HG := hid hg
      clear hA hg
      cases o with
      | none =>
        have hpa := ka.heap hPr.2.2 trivial
        have q0 : wa.cell? ⟨pa, 0, none⟩ = some (.pointer none) := cell_of_heap hpa
        have KE := hid (hold.trans' ka)
        clear hPr hM hHP hH0 hP0 hold hSP
        go_wp2
        go_ret
        exact ⟨rfl, KE.out⟩
      | some j =>
        have hTr : Tab wr := hT.keep (hold.old (fun _ => True)) trivial
        have hwj : j.ws.length ≤ 4000000 := by have h' : j.ws.length ≤ 2 * k + 1 := hws; have := hsl.1; omega
        go_upto_block 2 with fail
        go_cut [9] (fun v wx => v = .bool true ∧ Hid (InPlaced w pa t (2 * k + 1 + 1) wx))
        case first =>
          by_cases h1 : kd = 1
          · subst h1
            have hN : (appendJ j x.one).2.ws.length ≤ wsN (some j) + 1 := by
              unfold appendJ wsN
              split
              · simp
              · split <;> simp
            have hput := put_any wa.drew P S t 0 vO vI outs inn (hM.keep ((ka.drew).old _)) A1 c1 x.one (h7.keep ((hold.trans' ka).drew.old S)) (fun i hi => (hSP i hi).1) h4 (by omega) (by omega)
            have hap := fun (W : World) F gl vA vB vP q A' c' (S' : Nat → Prop) (a1 : LNet F W gl vA vB vP q j) (a2 : Bts S' W A' x.one) (a3 : Tab W) => append_any W F S' gl vA vB vP q j A' x.one.length c' x.one a1 a2 rfl a3 (by omega)
            have hrp := fun (W : World) G gm vA' vB' vP' q' (a1 : RNet G W gm vA' vB' vP' q' j) (a2 : Bts S W A1 x.one) => rappend_any W G S gm vA' vB' vP' q' j A1 x.one.length c1 x.one a1 a2 rfl (by omega)
            generalize appendJ j x.one = r at *
            obtain ⟨er, j'⟩ := r
            obtain ⟨hHp, hHlt, F, G, gl, gm, vA, vB, vP, q, vA', vB', vP', q', hp, hL, hR, hFG, hF, hG⟩ := hPr
            have hpa := ka.heap hp trivial
            have q0 : wa.cell? ⟨pa, 0, none⟩ = some (.pointer (some ⟨gl, 0, none⟩)) := cell_of_heap hpa
            have q1 : wa.cell? ⟨pa, 1, none⟩ = some (.pointer (some ⟨gm, 0, none⟩)) := cell_of_heap hpa
            have HAP := hid hap
            have HRP := hid hrp
            have HH := hid (And.intro hHp (And.intro hHlt (And.intro hp (And.intro hL (And.intro hR (And.intro hFG (And.intro hF hG)))))))
            have HN := hid hN
            have HX := hid (And.intro hSP (And.intro h7 (And.intro h8 (And.intro hM (And.intro hHP (And.intro hH0 hP0))))))
            clear hHp hHlt hp hL hR hFG hF hG hap hrp hN hSP h7 h8 hM hHP hH0 hP0 h4 h5
            go_upto_region 14 with fail
            refine wp_region_tree (fun w' => w'.heap[pa]? = some (.cells #[.pointer (some ⟨gl, 0, none⟩), .pointer (some ⟨gm, 0, none⟩)] 29 (0, 0)) ∧ w'.heap[g]? = some (.cells #[.int .i64 1, .slice A1 x.one.length c1, .slice B1 x.many.length d1, .int .i64 x.n] 54 (0, 0))) 10
              (.take 0 (.take 1 (.take 2 (.take 3 (.take 4 (.take 5 (.take 6 (.one 7 (.one 8 (.take 9 .tail)))))))))) (by kernel_rfl) (by kernel_rfl) ⟨hpa, hba⟩ ?_
            iterate 7 (refine pt_take (v := ?_) (by rfl) (by first | rfl | kernel_rfl) (fun w' hS => ?_) ?_; rotate_left 1; (have s0 : w'.cell? ⟨pa, 0, none⟩ = some (.pointer (some ⟨gl, 0, none⟩)) := cell_of_heap hS.1; have s1 : w'.cell? ⟨pa, 1, none⟩ = some (.pointer (some ⟨gm, 0, none⟩)) := cell_of_heap hS.1; have t0 : w'.cell? ⟨g, 0, none⟩ = some (.int .i64 1) := cell_of_heap hS.2; have t1 : w'.cell? ⟨g, 1, none⟩ = some (.slice A1 x.one.length c1) := cell_of_heap hS.2; have t2 : w'.cell? ⟨g, 2, none⟩ = some (.slice B1 x.many.length d1) := cell_of_heap hS.2; have t3 : w'.cell? ⟨g, 3, none⟩ = some (.int .i64 x.n) := cell_of_heap hS.2; clear hS; go_simp <;> (try with_reducible rfl)); (simp only [Act.put, List.setIfInBounds_toArray, List.set_cons_zero, List.set_cons_succ]))
            refine pt_one (by rfl) (loudly_of (by first | rfl | kernel_rfl) (fun K hK => ?_))
            go_wp2_with fail
            refine hput.mono ?_
            rintro e w1 ⟨P2, vI2, inn2, gi, c2, rfl, hc2, hP2, hb2, _, _, _, _, hPn2, hk2⟩
            clear hput
            obtain ⟨hHp, hHlt, hp, hL, hR, hFG, hF, hG⟩ := HH.out
            obtain ⟨hSP, h7, h8, hM, hHP, hH0, hP0⟩ := HX.out
            have kw1 : Keeps (fun i => ¬ P i) wr w1 := (ka.old _).trans' ((hk2.ofDrew).mono fun i _ hi => .inl hi : Keeps (fun i => ¬ P i) wa w1)
            have hgP : ¬ P g := fun h => by have := hM.lt g h; have := HG.out; omega
            have hp1 := kw1.heap hp (hHP pa hHp)
            have hb1 : w1.heap[g]? = some (.cells #[.int .i64 1, .slice A1 x.one.length c1, .slice B1 x.many.length d1, .int .i64 x.n] 54 (0, 0)) := ((hk2.ofDrew).mono fun i _ hi => .inl hi : Keeps (fun i => ¬ P i) wa w1).heap hba hgP
            have kd1 : Old w1 w1.drew := (Keeps.refl _ _).drew
            have hL1 := hL.keep (kw1.mono fun i _ hi => hHP i (hF i hi).1)
            have hR1 := hR.keep (kw1.mono fun i _ hi => hHP i (hG i hi).1)
            have hT1 : Tab w1 := hTr.keep kw1 (fun h => by have := hP0 0 h; have := hT.pos; omega)
            have hz1 := kw1.size
            have hPw1 : ∀ i, P2 i → w.heap.size ≤ i := fun i hi => by
              rcases hPn2 i hi with h' | h'
              · exact hP0 i h'
              · have h'' : wa.heap.size ≤ i := h'
                omega
            have hSk : Keeps S w w1 := (hold.old S).trans kw1 fun i _ hi => (hSP i hi).1
            refine hK _ _ ⟨hp1, hb1⟩ ?_
            clear hK K
            refine pt_one (by rfl) (loudly_of (by first | rfl | kernel_rfl) (fun K hK => ?_))
            have hca := HAP.out w1 F gl vA vB vP q (some ⟨gi, 0, none⟩) c2 _ hL1 hb2 hT1
            go_wp2_with fail
            refine hca.mono ?_
            rintro e w2 ⟨rfl, F1, vP1, q1', hL2, hF1, kL1⟩
            clear hca
            have nFp : ¬ F pa := fun h => (hF pa h).2 rfl
            have nGp : ¬ G pa := fun h => (hG pa h).2 rfl
            have nFb : ¬ F g := fun h => by have := hHlt g (hF g h).1; have := HG.out; omega
            have nGb : ¬ G g := fun h => by have := hHlt g (hG g h).1; have := HG.out; omega
            have hp2 := kL1.heap hp1 nFp
            have hb2' := kL1.heap hb1 nFb
            refine hK _ _ ⟨hp2, hb2'⟩ ?_
            clear hK K
            (refine pt_take (v := ?_) (by rfl) (by first | rfl | kernel_rfl) (fun w' hS => ?_) ?_; rotate_left 1; (have s0 : w'.cell? ⟨pa, 0, none⟩ = some (.pointer (some ⟨gl, 0, none⟩)) := cell_of_heap hS.1; have s1 : w'.cell? ⟨pa, 1, none⟩ = some (.pointer (some ⟨gm, 0, none⟩)) := cell_of_heap hS.1; have t0 : w'.cell? ⟨g, 0, none⟩ = some (.int .i64 1) := cell_of_heap hS.2; have t1 : w'.cell? ⟨g, 1, none⟩ = some (.slice A1 x.one.length c1) := cell_of_heap hS.2; have t2 : w'.cell? ⟨g, 2, none⟩ = some (.slice B1 x.many.length d1) := cell_of_heap hS.2; have t3 : w'.cell? ⟨g, 3, none⟩ = some (.int .i64 x.n) := cell_of_heap hS.2; clear hS; go_simp <;> (try with_reducible rfl)); (simp only [Act.put, List.setIfInBounds_toArray, List.set_cons_zero, List.set_cons_succ]))
            refine pt_tail (by rfl) ?_
            go_wp2
            refine NoPanic.normal ?_
            go_upto_region 15 with fail
            have kd2 : Old w2 w2.drew := (Keeps.refl _ _).drew
            have hR2 := hR1.keep (kL1.mono fun i _ h hf => hFG i hf h)
            have hSk2 : Keeps S w w2 := hSk.trans kL1 fun i hiw hi hf => by have := hH0 i (hF i hf).1; omega
            refine wp_region_tree (fun w' => w'.heap[pa]? = some (.cells #[.pointer (some ⟨gl, 0, none⟩), .pointer (some ⟨gm, 0, none⟩)] 29 (0, 0)) ∧ w'.heap[g]? = some (.cells #[.int .i64 1, .slice A1 x.one.length c1, .slice B1 x.many.length d1, .int .i64 x.n] 54 (0, 0))) 8
              (.take 0 (.take 1 (.take 2 (.take 3 (.take 4 (.take 5 (.one 6 (.take 7 .tail)))))))) (by kernel_rfl) (by kernel_rfl) ⟨hp2, hb2'⟩ ?_
            iterate 6 (refine pt_take (v := ?_) (by rfl) (by first | rfl | kernel_rfl) (fun w' hS => ?_) ?_; rotate_left 1; (have s0 : w'.cell? ⟨pa, 0, none⟩ = some (.pointer (some ⟨gl, 0, none⟩)) := cell_of_heap hS.1; have s1 : w'.cell? ⟨pa, 1, none⟩ = some (.pointer (some ⟨gm, 0, none⟩)) := cell_of_heap hS.1; have t0 : w'.cell? ⟨g, 0, none⟩ = some (.int .i64 1) := cell_of_heap hS.2; have t1 : w'.cell? ⟨g, 1, none⟩ = some (.slice A1 x.one.length c1) := cell_of_heap hS.2; have t2 : w'.cell? ⟨g, 2, none⟩ = some (.slice B1 x.many.length d1) := cell_of_heap hS.2; have t3 : w'.cell? ⟨g, 3, none⟩ = some (.int .i64 x.n) := cell_of_heap hS.2; clear hS; go_simp <;> (try with_reducible rfl)); (simp only [Act.put, List.setIfInBounds_toArray, List.set_cons_zero, List.set_cons_succ]))
            refine pt_one (by rfl) (loudly_of (by first | rfl | kernel_rfl) (fun K hK => ?_))
            have hca := HRP.out w2.drew G gm vA' vB' vP' q' (hR2.keep (kd2.old _)) ((h7.keep hSk2).keep (kd2.old _))
            go_wp2_with fail
            refine hca.mono ?_
            rintro e w3 ⟨rfl, G2, vP2, q2, hR3, hG2, kR2⟩
            clear hca
            refine hK _ _ ⟨kR2.heap hp2 nGp, kR2.heap hb2' nGb⟩ ?_
            clear hK K
            (refine pt_take (v := ?_) (by rfl) (by first | rfl | kernel_rfl) (fun w' hS => ?_) ?_; rotate_left 1; (have s0 : w'.cell? ⟨pa, 0, none⟩ = some (.pointer (some ⟨gl, 0, none⟩)) := cell_of_heap hS.1; have s1 : w'.cell? ⟨pa, 1, none⟩ = some (.pointer (some ⟨gm, 0, none⟩)) := cell_of_heap hS.1; have t0 : w'.cell? ⟨g, 0, none⟩ = some (.int .i64 1) := cell_of_heap hS.2; have t1 : w'.cell? ⟨g, 1, none⟩ = some (.slice A1 x.one.length c1) := cell_of_heap hS.2; have t2 : w'.cell? ⟨g, 2, none⟩ = some (.slice B1 x.many.length d1) := cell_of_heap hS.2; have t3 : w'.cell? ⟨g, 3, none⟩ = some (.int .i64 x.n) := cell_of_heap hS.2; clear hS; go_simp <;> (try with_reducible rfl)); (simp only [Act.put, List.setIfInBounds_toArray, List.set_cons_zero, List.set_cons_succ]))
            refine pt_tail (by rfl) ?_
            go_wp2
            refine NoPanic.normal ?_
            have hpo := pair_join (H := H) (o := some j) hp1 (fun i hi => by have := hHlt i hi; omega) hHp hFG hF hG (Keeps.refl _ w1) hL2 hF1 kL1 kd2 hR3 hG2 kR2 (Keeps.refl _ w3) HN.out
            have HR := hid (placed_join (w := w) hpo hP2 (fun i hi hp' => by
              rcases hPn2 i hp' with h' | h'
              · exact hHP i hi h'
              · have h'' : wa.heap.size ≤ i := h'
                have := hHlt i hi
                omega) hH0 hPw1 ((hold.trans kw1 fun i hiw _ hi => by have := hP0 i hi; omega) : Old w w1) hws)
            clear hpo hP2 hPn2 hk2 hL1 hR1 hL2 hF1 kL1 hR2 hR3 hG2 kR2 hHp hHlt hp hL hR hFG hF hG hSP h7 h8 hM hHP hH0 hP0 hPw1 hp1 hp2 kw1 hSk hSk2
            go_wp2
            go_meet
            exact ⟨by first | rfl | simp, HR⟩
          · have b1 : (kd == 1) = false := beq_eq_false_iff_ne.2 h1
            by_cases h2 : kd = 2
            · subst h2
              have hN : (rewriteJ j x.many).2.ws.length ≤ wsN (some j) + 1 := by
                unfold rewriteJ wsN
                split
                · simp
                · split <;> simp
              have hput := list_any wa.drew P S t vO vI outs inn (hM.keep ((ka.drew).old _)) B1 d1 x.many (h8.keep ((hold.trans' ka).drew.old S)) (fun i hi => ⟨(hSP i hi).1, by have := (hSP i hi).2.2; have := hzo; have := hza; show i < wa.heap.size; omega⟩) (by omega) (fun r hr => by have := hsm.2.2 r hr; omega)
              have hap := fun (W : World) F gl vA vB vP q A' c' (S' : Nat → Prop) (a1 : LNet F W gl vA vB vP q j) (a2 : Rcs S' W A' x.many) (a0 : ∀ i, S' i → ¬ F i) (a3 : Tab W) => rewrite_any W F S' gl vA vB vP q j A' x.many.length c' x.many a1 a2 a0 rfl a3 (by omega)
              have hrp := fun (W : World) G gm vA' vB' vP' q' (a1 : RNet G W gm vA' vB' vP' q' j) (a2 : Rcs S W B1 x.many) (a0 : ∀ i, S i → ¬ G i) => rrewrite_any W G S gm vA' vB' vP' q' j B1 x.many.length d1 x.many a1 a2 a0 rfl (by omega) (by omega)
              generalize rewriteJ j x.many = r at *
              obtain ⟨er, j'⟩ := r
              obtain ⟨hHp, hHlt, F, G, gl, gm, vA, vB, vP, q, vA', vB', vP', q', hp, hL, hR, hFG, hF, hG⟩ := hPr
              have hpa := ka.heap hp trivial
              have q0 : wa.cell? ⟨pa, 0, none⟩ = some (.pointer (some ⟨gl, 0, none⟩)) := cell_of_heap hpa
              have q1 : wa.cell? ⟨pa, 1, none⟩ = some (.pointer (some ⟨gm, 0, none⟩)) := cell_of_heap hpa
              have HAP := hid hap
              have HRP := hid hrp
              have HH := hid (And.intro hHp (And.intro hHlt (And.intro hp (And.intro hL (And.intro hR (And.intro hFG (And.intro hF hG)))))))
              have HN := hid hN
              have HX := hid (And.intro hSP (And.intro h7 (And.intro h8 (And.intro hM (And.intro hHP (And.intro hH0 hP0))))))
              clear hHp hHlt hp hL hR hFG hF hG hap hrp hN hSP h7 h8 hM hHP hH0 hP0 h4 h5
              go_upto_region 18 with fail
              refine wp_region_tree (fun w' => w'.heap[pa]? = some (.cells #[.pointer (some ⟨gl, 0, none⟩), .pointer (some ⟨gm, 0, none⟩)] 29 (0, 0)) ∧ w'.heap[g]? = some (.cells #[.int .i64 2, .slice A1 x.one.length c1, .slice B1 x.many.length d1, .int .i64 x.n] 54 (0, 0))) 10
                (.take 0 (.take 1 (.take 2 (.take 3 (.take 4 (.take 5 (.take 6 (.one 7 (.one 8 (.take 9 .tail)))))))))) (by kernel_rfl) (by kernel_rfl) ⟨hpa, hba⟩ ?_
              iterate 7 (refine pt_take (v := ?_) (by rfl) (by first | rfl | kernel_rfl) (fun w' hS => ?_) ?_; rotate_left 1; (have s0 : w'.cell? ⟨pa, 0, none⟩ = some (.pointer (some ⟨gl, 0, none⟩)) := cell_of_heap hS.1; have s1 : w'.cell? ⟨pa, 1, none⟩ = some (.pointer (some ⟨gm, 0, none⟩)) := cell_of_heap hS.1; have t0 : w'.cell? ⟨g, 0, none⟩ = some (.int .i64 2) := cell_of_heap hS.2; have t1 : w'.cell? ⟨g, 1, none⟩ = some (.slice A1 x.one.length c1) := cell_of_heap hS.2; have t2 : w'.cell? ⟨g, 2, none⟩ = some (.slice B1 x.many.length d1) := cell_of_heap hS.2; have t3 : w'.cell? ⟨g, 3, none⟩ = some (.int .i64 x.n) := cell_of_heap hS.2; clear hS; go_simp <;> (try with_reducible rfl)); (simp only [Act.put, List.setIfInBounds_toArray, List.set_cons_zero, List.set_cons_succ]))
              refine pt_one (by rfl) (loudly_of (by first | rfl | kernel_rfl) (fun K hK => ?_))
              go_wp2_with fail
              refine hput.mono ?_
              rintro e w1 ⟨P2, vO2, vI2, outs2, inn2, A2, c2, rfl, hc2, hP2, hb2, _, _, hPn2, hk2⟩
              clear hput
              obtain ⟨hHp, hHlt, hp, hL, hR, hFG, hF, hG⟩ := HH.out
              obtain ⟨hSP, h7, h8, hM, hHP, hH0, hP0⟩ := HX.out
              have kw1 : Keeps (fun i => ¬ P i) wr w1 := (ka.old _).trans' (hk2.ofDrew : Keeps (fun i => ¬ P i) wa w1)
              have hgP : ¬ P g := fun h => by have := hM.lt g h; have := HG.out; omega
              have hp1 := kw1.heap hp (hHP pa hHp)
              have hb1 : w1.heap[g]? = some (.cells #[.int .i64 2, .slice A1 x.one.length c1, .slice B1 x.many.length d1, .int .i64 x.n] 54 (0, 0)) := (hk2.ofDrew : Keeps (fun i => ¬ P i) wa w1).heap hba hgP
              have kd1 : Old w1 w1.drew := (Keeps.refl _ _).drew
              have hL1 := hL.keep (kw1.mono fun i _ hi => hHP i (hF i hi).1)
              have hR1 := hR.keep (kw1.mono fun i _ hi => hHP i (hG i hi).1)
              have hT1 : Tab w1 := hTr.keep kw1 (fun h => by have := hP0 0 h; have := hT.pos; omega)
              have hz1 := kw1.size
              have hPw1 : ∀ i, P2 i → w.heap.size ≤ i := fun i hi => by
                rcases hPn2 i hi with h' | h'
                · exact hP0 i h'
                · have h'' : wa.heap.size ≤ i := h'
                  omega
              have hSk : Keeps S w w1 := (hold.old S).trans kw1 fun i _ hi => (hSP i hi).1
              refine hK _ _ ⟨hp1, hb1⟩ ?_
              clear hK K
              refine pt_one (by rfl) (loudly_of (by first | rfl | kernel_rfl) (fun K hK => ?_))
              have hca := HAP.out w1 F gl vA vB vP q A2 c2 _ hL1 hb2 (fun i hi hf => by
                rcases hPn2 i hi with h' | h'
                · exact hHP i (hF i hf).1 h'
                · have h'' : wa.heap.size ≤ i := h'
                  have := hHlt i (hF i hf).1
                  omega) hT1
              go_wp2_with fail
              refine hca.mono ?_
              rintro e w2 ⟨rfl, F1, vP1, q1', hL2, hF1, kL1⟩
              clear hca
              have nFp : ¬ F pa := fun h => (hF pa h).2 rfl
              have nGp : ¬ G pa := fun h => (hG pa h).2 rfl
              have nFb : ¬ F g := fun h => by have := hHlt g (hF g h).1; have := HG.out; omega
              have nGb : ¬ G g := fun h => by have := hHlt g (hG g h).1; have := HG.out; omega
              have hp2 := kL1.heap hp1 nFp
              have hb2' := kL1.heap hb1 nFb
              refine hK _ _ ⟨hp2, hb2'⟩ ?_
              clear hK K
              (refine pt_take (v := ?_) (by rfl) (by first | rfl | kernel_rfl) (fun w' hS => ?_) ?_; rotate_left 1; (have s0 : w'.cell? ⟨pa, 0, none⟩ = some (.pointer (some ⟨gl, 0, none⟩)) := cell_of_heap hS.1; have s1 : w'.cell? ⟨pa, 1, none⟩ = some (.pointer (some ⟨gm, 0, none⟩)) := cell_of_heap hS.1; have t0 : w'.cell? ⟨g, 0, none⟩ = some (.int .i64 2) := cell_of_heap hS.2; have t1 : w'.cell? ⟨g, 1, none⟩ = some (.slice A1 x.one.length c1) := cell_of_heap hS.2; have t2 : w'.cell? ⟨g, 2, none⟩ = some (.slice B1 x.many.length d1) := cell_of_heap hS.2; have t3 : w'.cell? ⟨g, 3, none⟩ = some (.int .i64 x.n) := cell_of_heap hS.2; clear hS; go_simp <;> (try with_reducible rfl)); (simp only [Act.put, List.setIfInBounds_toArray, List.set_cons_zero, List.set_cons_succ]))
              refine pt_tail (by rfl) ?_
              go_wp2
              refine NoPanic.normal ?_
              go_upto_region 19 with fail
              have kd2 : Old w2 w2.drew := (Keeps.refl _ _).drew
              have hR2 := hR1.keep (kL1.mono fun i _ h hf => hFG i hf h)
              have hSk2 : Keeps S w w2 := hSk.trans kL1 fun i hiw hi hf => by have := hH0 i (hF i hf).1; omega
              refine wp_region_tree (fun w' => w'.heap[pa]? = some (.cells #[.pointer (some ⟨gl, 0, none⟩), .pointer (some ⟨gm, 0, none⟩)] 29 (0, 0)) ∧ w'.heap[g]? = some (.cells #[.int .i64 2, .slice A1 x.one.length c1, .slice B1 x.many.length d1, .int .i64 x.n] 54 (0, 0))) 8
                (.take 0 (.take 1 (.take 2 (.take 3 (.take 4 (.take 5 (.one 6 (.take 7 .tail)))))))) (by kernel_rfl) (by kernel_rfl) ⟨hp2, hb2'⟩ ?_
              iterate 6 (refine pt_take (v := ?_) (by rfl) (by first | rfl | kernel_rfl) (fun w' hS => ?_) ?_; rotate_left 1; (have s0 : w'.cell? ⟨pa, 0, none⟩ = some (.pointer (some ⟨gl, 0, none⟩)) := cell_of_heap hS.1; have s1 : w'.cell? ⟨pa, 1, none⟩ = some (.pointer (some ⟨gm, 0, none⟩)) := cell_of_heap hS.1; have t0 : w'.cell? ⟨g, 0, none⟩ = some (.int .i64 2) := cell_of_heap hS.2; have t1 : w'.cell? ⟨g, 1, none⟩ = some (.slice A1 x.one.length c1) := cell_of_heap hS.2; have t2 : w'.cell? ⟨g, 2, none⟩ = some (.slice B1 x.many.length d1) := cell_of_heap hS.2; have t3 : w'.cell? ⟨g, 3, none⟩ = some (.int .i64 x.n) := cell_of_heap hS.2; clear hS; go_simp <;> (try with_reducible rfl)); (simp only [Act.put, List.setIfInBounds_toArray, List.set_cons_zero, List.set_cons_succ]))
              refine pt_one (by rfl) (loudly_of (by first | rfl | kernel_rfl) (fun K hK => ?_))
              have hca := HRP.out w2.drew G gm vA' vB' vP' q' (hR2.keep (kd2.old _)) ((h8.keep hSk2).keep (kd2.old _)) (fun i hi hg => by have h1 := hH0 i (hG i hg).1; have h2 := (hSP i hi).2.2; omega)
              go_wp2_with fail
              refine hca.mono ?_
              rintro e w3 ⟨rfl, G2, vP2, q2, hR3, hG2, kR2⟩
              clear hca
              refine hK _ _ ⟨kR2.heap hp2 nGp, kR2.heap hb2' nGb⟩ ?_
              clear hK K
              (refine pt_take (v := ?_) (by rfl) (by first | rfl | kernel_rfl) (fun w' hS => ?_) ?_; rotate_left 1; (have s0 : w'.cell? ⟨pa, 0, none⟩ = some (.pointer (some ⟨gl, 0, none⟩)) := cell_of_heap hS.1; have s1 : w'.cell? ⟨pa, 1, none⟩ = some (.pointer (some ⟨gm, 0, none⟩)) := cell_of_heap hS.1; have t0 : w'.cell? ⟨g, 0, none⟩ = some (.int .i64 2) := cell_of_heap hS.2; have t1 : w'.cell? ⟨g, 1, none⟩ = some (.slice A1 x.one.length c1) := cell_of_heap hS.2; have t2 : w'.cell? ⟨g, 2, none⟩ = some (.slice B1 x.many.length d1) := cell_of_heap hS.2; have t3 : w'.cell? ⟨g, 3, none⟩ = some (.int .i64 x.n) := cell_of_heap hS.2; clear hS; go_simp <;> (try with_reducible rfl)); (simp only [Act.put, List.setIfInBounds_toArray, List.set_cons_zero, List.set_cons_succ]))
              refine pt_tail (by rfl) ?_
              go_wp2
              refine NoPanic.normal ?_
              have hpo := pair_join (H := H) (o := some j) hp1 (fun i hi => by have := hHlt i hi; omega) hHp hFG hF hG (Keeps.refl _ w1) hL2 hF1 kL1 kd2 hR3 hG2 kR2 (Keeps.refl _ w3) HN.out
              have HR := hid (placed_join (w := w) hpo hP2 (fun i hi hp' => by
                rcases hPn2 i hp' with h' | h'
                · exact hHP i hi h'
                · have h'' : wa.heap.size ≤ i := h'
                  have := hHlt i hi
                  omega) hH0 hPw1 ((hold.trans kw1 fun i hiw _ hi => by have := hP0 i hi; omega) : Old w w1) hws)
              clear hpo hP2 hPn2 hk2 hL1 hR1 hL2 hF1 kL1 hR2 hR3 hG2 kR2 hHp hHlt hp hL hR hFG hF hG hSP h7 h8 hM hHP hH0 hP0 hPw1 hp1 hp2 kw1 hSk hSk2
              go_wp2
              go_meet
              exact ⟨by first | rfl | simp, HR⟩
            · have b2 : (kd == 2) = false := beq_eq_false_iff_ne.2 h2
              have hpl := plays_any wa H S pa (some j) kd x.n A1 B1 c1 d1 x.one x.many (hPr.keep (ka.old _)) (h7.keep ((hold.trans' ka).old _)) (h8.keep ((hold.trans' ka).old _)) h6 (fun i hi => ⟨by have := (hSP i hi).2.2; omega, (hSP i hi).2.1⟩) h9 h10
                (hTr.keep (ka.old (fun _ => True)) trivial) (fun h => by have := hH0 0 h; omega) (by show j.ws.length ≤ _; omega)
              have hPr2 := hPr
              obtain ⟨_, _, F, G, gl, gm, vA, vB, vP, q, vA', vB', vP', q', hpr, _⟩ := hPr2
              have hpa := ka.heap hpr trivial
              have q0 : wa.cell? ⟨pa, 0, none⟩ = some (.pointer (some ⟨gl, 0, none⟩)) := cell_of_heap hpa
              have q1 : wa.cell? ⟨pa, 1, none⟩ = some (.pointer (some ⟨gm, 0, none⟩)) := cell_of_heap hpa
              have HX := hid (And.intro hM (And.intro hHP (And.intro hH0 (And.intro hP0 (And.intro hold (And.intro hSP hPr))))))
              clear hM hHP hH0 hP0 hold hSP hPr hpr hpa
              go_wp2_with fail
              refine hpl.mono ?_
              rintro e w3 hpo
              obtain rfl := hpo.1
              obtain ⟨hM, hHP, hH0, hP0, hold, hSP, hPr⟩ := HX.out
              have HR := hid (placed_join hpo (hM.keep (ka.old _)) hHP hH0 hP0 (hold.trans' ka) hws)
              clear hpl hpo HX hM hHP hH0 hP0 hold hSP hPr
              go_wp2
              go_meet
              exact ⟨by first | rfl | simp, HR⟩
        case rest =>
          clear hPr hM hHP hH0 hP0 hold hSP hws hTr h0 h1 h2 h3 h4 h5 h6 h7 h8 h9 h10 hba y0 y1 y2 y3 ka hza hzo hwj
          obtain ⟨rfl, hin⟩ := hcut
          obtain ⟨H, o, P, vO, vI, outs, inn, hPr, hM, hHP, hH0, hP0, hold, hws⟩ := hin.out
          clear hin
          have hzo := hold.size
          cases o with
          | none =>
            have hpa := hPr.2.2
            have q0 : wc.cell? ⟨pa, 0, none⟩ = some (.pointer none) := cell_of_heap hpa
            have HR := hid (show InPlaced w pa t (2 * (k + 1) + 1) wc from ⟨H, none, P, vO, vI, outs, inn, hPr, hM, hHP, hH0, hP0, hold, Nat.zero_le _⟩)
            clear hPr hM hHP hH0 hP0 hold hpa
            go_wp2
            exact ⟨⟨k + 1, by go_num, by omega, HR⟩, by simp [intOf]; omega⟩
          | some j2 =>
            have hpl : Calls Tryd.prog 36 #[.pointer (some ⟨pa, 0, none⟩), .agg #[.int .i64 4, .slice none 0 0, .slice none 0 0, .int .i64 0]] wc (PostPlays H wc pa (some j2)) := plays_any wc H (fun _ => False) pa (some j2) 4 0 none none 0 0 [] [] hPr (Bts.nil _ _ _) (Rcs.nil _ _ _) (by simp) (fun _ h => h.elim) (by omega) (by omega) (hT.keep (hold.old (fun _ => True)) trivial) (fun h => by have := hH0 0 h; omega) (by have := hsl.1; omega)
            obtain ⟨_, _, F, G, gl, gm, vA, vB, vP, q, vA', vB', vP', q', hpa, _⟩ := hPr
            have q0 : wc.cell? ⟨pa, 0, none⟩ = some (.pointer (some ⟨gl, 0, none⟩)) := cell_of_heap hpa
            have q1 : wc.cell? ⟨pa, 1, none⟩ = some (.pointer (some ⟨gm, 0, none⟩)) := cell_of_heap hpa
            have HX := hid (And.intro hM (And.intro hHP (And.intro hH0 (And.intro hP0 hold))))
            clear hM hHP hH0 hP0 hold hpa
            go_wp2_with fail
            refine hpl.mono ?_
            rintro e w3 hpo
            obtain rfl := hpo.1
            obtain ⟨hM, hHP, hH0, hP0, hold⟩ := HX.out
            have HR := hid (placed_join hpo hM hHP hH0 hP0 hold hws)
            clear hpl hpo HX hM hHP hH0 hP0 hold
            go_wp2
            exact ⟨⟨k + 1, by go_num, by omega, HR⟩, by simp [intOf]; omega⟩
    · have hpl : Calls Tryd.prog 36 #[.pointer (some ⟨pa, 0, none⟩), .agg #[.int .i64 6, .slice none 0 0, .slice none 0 0, .int .i64 1073741824]] wr (PostPlays H wr pa o) := plays_any wr H (fun _ => False) pa o 6 1073741824 none none 0 0 [] [] hPr (Bts.nil _ _ _) (Rcs.nil _ _ _) (by simp) (fun _ h => h.elim) (by omega) (by omega) (hT.keep (hold.old (fun _ => True)) trivial) (fun h => by have := hH0 0 h; omega) (by have := hsl.1; omega)
      have i1 : ¬ (k : Int) < (l.length : Int) := by omega
      have HX := hid (And.intro hH0 hold)
      clear hM hHP hH0 hP0 hold hPr
      go_wp2_with fail
      refine hpl.mono ?_
      rintro e w3 ⟨rfl, H3, o3, _, _, k3, _⟩
      clear hpl
      obtain ⟨hH0, hold⟩ := HX.out
      have HR := hid (show Old w w3 from hold.trans k3 fun i hi _ h => by have := hH0 i h; omega)
      clear hH0 hold k3 HX
      go_wp2
      go_ret
      exact ⟨rfl, HR.out⟩
end Go.Proofs.YtdpaaoeipconcaaDoor

