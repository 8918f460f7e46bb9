/- weftlaw12.JournalDamage: one byte of a synced disk is another one: it is told. Conditions: the script can be read, the table lies. -/
import Derived.Test.YtdpaaoeipconcaaDoorJBegun
import Derived.Test.YtdpaaoeipconcaaDoorJArgs
namespace Go.Proofs.YtdpaaoeipconcaaDoor
open Go.RowKit

/-- Behind a script: the journal's disk, and its records. -/
def PostWritten (w : World) (e : Ending) (w' : World) : Prop :=
  ∃ j R vA vB A c, e = .returned (.tuple #[.agg #[vA, vB], .slice A R.length c]) ∧ OwnB (fun k => w.heap.size ≤ k) w' vA j.dA ∧ OwnB (fun k => w.heap.size ≤ k) w' vB j.dB ∧ (∀ k, vA.ownBlock = some k → vB.ownBlock ≠ some k) ∧ R.length ≤ c ∧ Rcs (fun k => w.heap.size ≤ k) w' A R ∧
    j.ws = [] ∧ DmgJ j ∧ LogOK j R ∧ j.dA.length ≤ 1048576 ∧ j.dB.length ≤ 1048576 ∧ Old w w'

theorem set_two {W : World} {g t : Nat} {a b : Value} (h : W.heap[g]? = some (.cells #[a, b] t (0, 0))) (x0 x1 : Value) : ((W.setCell ⟨g, 0, none⟩ x0).setCell ⟨g, 1, none⟩ x1).heap[g]? = some (.cells #[x0, x1] t (0, 0)) := by
  rw [heap_setCell (heap_setCell h _)]
  rfl
theorem keeps_two {W : World} {g : Nat} (x0 x1 : Value) : Keeps (· ≠ g) W ((W.setCell ⟨g, 0, none⟩ x0).setCell ⟨g, 1, none⟩ x1) :=
  ((Keeps.refl _ _).setCell (fun _ h => h rfl) _).setCell (fun _ h => h rfl) _

theorem written_end {w W : World} {a : Act} {vA vB L : Value} (ht : a.tmps[2]? = some (.pointer (some ⟨w.heap.size, 0, none⟩))) (h3 : a.tmps[3]? = some L) (hd : a.defers = [])
    (hb : W.heap[w.heap.size]? = some (.cells #[vA, vB] 24 (0, 0))) (hP : PostWritten w (.returned (.tuple #[.agg #[vA, vB], L])) W) :
    bodyPost Tryd.prog Tryd.f43 (PostWritten w) .ret a W := by
  have d0 : W.cell? ⟨w.heap.size, 0, none⟩ = some vA := cell_of_heap hb
  have d1 : W.cell? ⟨w.heap.size, 1, none⟩ = some vB := cell_of_heap hb
  refine bodyPost_ret (v := .tuple #[.agg #[vA, vB], L]) ?_ hd hP
  simp [results, Tryd.results43, go_sem, ht, h3, d0, d1]

set_option maxHeartbeats 4000000 in
theorem written_any (w : World) (S : Nat → Prop) (C : Option Addr) (cc : Nat) (l : List OpJ) (hO : Ops S w C l) (hS : ∀ k, S k → k < w.heap.size) (hT : Tab w) :
    Calls Tryd.prog 43 #[.slice C l.length cc] w (PostWritten w) := by
  obtain ⟨W0, hW0⟩ : ∃ W, W = w.alloc (.cells #[.slice none 0 0, .slice none 0 0] 24) := ⟨_, rfl⟩
  have k0 : Old w W0 := by rw [hW0]; exact (Keeps.refl _ _).alloc _
  have hb0 : W0.heap[w.heap.size]? = some (.cells #[.slice none 0 0, .slice none 0 0] 24 (0, 0)) := by rw [hW0]; exact heap_alloc_new _ _
  have hsz0 : W0.heap.size = w.heap.size + 1 := by rw [hW0]; simp
  have hl0 := hO.1
  have hpos := hT.pos
  have hbe := begun2_any W0 (hT.keep (k0.old (fun _ => True)) trivial)
  have HZ := hid hsz0
  clear hsz0
  go_enter Tryd.func43, Tryd.ntmps43
  go_upto_region 1 with fail
  rw [← hW0]
  clear hW0
  go_wp2_with fail
  refine hbe.mono ?_
  rintro e w1 ⟨g, t, rfl, hTJ, k1⟩
  clear hbe
  have z1 := k1.size
  have HS : Hid (∃ R0 rest R j, TJs (0 + 1) (fun k => W0.heap.size ≤ k) w1 g t j R0 rest R ∧ DmgJ j) := hid ⟨[], [], [], exJ0, hTJ, dmg_begin ex_open⟩
  have HK := hid (k0.trans' k1)
  have HB := hid ((k1.heap hb0 trivial))
  clear hTJ
  go_wp2
  go_loopw [6] (fun i wr => ∃ k : Nat, i = .int .i64 k ∧ k ≤ l.length ∧ Hid (∃ R0 rest R j, TJs (k + 1) (fun k => W0.heap.size ≤ k) wr g t j R0 rest R ∧ DmgJ j) ∧ Hid (Old w wr) ∧ Hid (wr.heap[w.heap.size]? = some (.cells #[.slice none 0 0, .slice none 0 0] 24 (0, 0)))) (fun i _ => l.length - (intOf i).toNat)
  case atStart => exact ⟨0, rfl, Nat.zero_le _, HS, HK, HB⟩
  case round =>
    clear HS HK HB
    obtain ⟨k, rfl, hk, hin, hold, hbl⟩ := hrel
    obtain ⟨R0, rest, R, j, htj, hdm⟩ := hin.out
    clear hin
    replace hold := hold.out
    have hzo := hold.size
    have hzs := HZ.out
    have hzl := lt_of_heap hbl.out
    by_cases hlt : k < l.length
    · obtain ⟨b, o, rfl, hSb, A1, c1, B1, d1, h0, h1, h2, h3, h4, h5, h6, h7, h8, h9, h10⟩ := (hO.keep (hold.old _)).at_ (j := k) hlt
      generalize l[k] = x at *
      have i1 : (0 : Int) ≤ (k : Int) := by omega
      have i2 : (k : Int) < (l.length : Int) := by omega
      have HTJ := hid htj
      have HDM := hid hdm
      clear htj hdm
      by_cases hkd : 1 ≤ x.kind ∧ x.kind ≤ 3
      · obtain ⟨kd1, kd2⟩ := hkd
        have kd3 : x.kind ≥ 1 := kd1
        have htl := tell_any wr g t j R0 rest R (k + 1) (fun k => W0.heap.size ≤ k) S HTJ.out (by omega) x.kind x.n A1 B1 c1 d1 x.one x.many h7 h8 h6 (fun k hk => by have := hS k hk; omega) (hT.keep (hold.old (fun _ => True)) trivial)
        go_wp2_with fail
        refine htl.mono ?_
        rintro e w3 ⟨rfl, R0', rest', R', htj', k3⟩
        clear htl
        obtain ⟨F, T, vA, vB, vP, q, uG, uP, uR, gi, pts, rq, hh, n1, n2, n3, hFB, hTB⟩ := HTJ.out
        have hdm' := dmg_step hh.rec_.log HDM.out x.kind x.one x.many
        obtain ⟨F', T', vA', vB', vP', q', uG', uP', uR', gi', pts', rq', hh', n1', n2', n3', hFB', hTB'⟩ := htj'
        have HR := hid (show ∃ R0 rest R j, TJs (k + 1 + 1) (fun k => W0.heap.size ≤ k) w3 g t j R0 rest R ∧ DmgJ j from ⟨R0', rest', R', _, ⟨F', T', vA', vB', vP', q', uG', uP', uR', gi', pts', rq', hh', n1', n2', n3', fun k hk => by
          rcases hFB' k hk with h | h
          · exact h
          · show W0.heap.size ≤ k
            omega, fun k hk => by
          rcases hTB' k hk with h | h
          · exact h
          · show W0.heap.size ≤ k
            omega⟩, hdm'⟩)
        have HK := hid (hold.trans k3 fun k hk _ => by show ¬ W0.heap.size ≤ k; omega)
        have HB := hid (k3.heap hbl.out (by show ¬ W0.heap.size ≤ w.heap.size; omega))
        clear hh hh' hdm' hFB hTB hFB' hTB' k3
        go_wp2
        exact ⟨⟨k + 1, by go_num, by omega, HR, HK, HB⟩, by simp [intOf]; omega⟩
      · have HR := hid (show ∃ R0 rest R j, TJs (k + 1 + 1) (fun k => W0.heap.size ≤ k) wr g t j R0 rest R ∧ DmgJ j from by
          obtain ⟨F, T, vA, vB, vP, q, uG, uP, uR, gi, pts, rq, hh, n1, n2, n3, hFB, hTB⟩ := HTJ.out
          exact ⟨R0, rest, R, j, ⟨F, T, vA, vB, vP, q, uG, uP, uR, gi, pts, rq, hh, by omega, by omega, by omega, hFB, hTB⟩, HDM.out⟩)
        have HK := hid hold
        by_cases kd1 : 1 ≤ x.kind
        · have kd2 : ¬ x.kind ≤ 3 := fun h => hkd ⟨kd1, h⟩
          have kd3 : x.kind ≥ 1 := kd1
          clear hkd
          go_wp2
          exact ⟨⟨k + 1, by go_num, by omega, HR, HK, hbl⟩, by simp [intOf]; omega⟩
        · have kd3 : ¬ x.kind ≥ 1 := kd1
          clear hkd
          go_wp2
          exact ⟨⟨k + 1, by go_num, by omega, HR, HK, hbl⟩, by simp [intOf]; omega⟩
    · have i2 : ¬ (k : Int) < (l.length : Int) := by omega
      obtain ⟨F, T, vA, vB, vP, q, uG, uP, uR, gi, pts, rq, hh, n1, n2, n3, hFB, hTB⟩ := htj
      have hsy := lsync_any wr F g vA vB vP q j hh.net (by omega)
      have hG := hh.net.good
      have HH := hid hh
      have HDM := hid (dmg_sync hdm)
      clear hh hdm
      go_wp2_with fail
      refine hsy.mono ?_
      rintro e w3 ⟨rfl, F3, vA3, vB3, hn3, hF3, k3⟩
      clear hsy
      have z3 := k3.size
      have ht3 := HH.out.tale.keep (k3.mono fun k _ hk hf => HH.out.apart k hf hk)
      obtain ⟨AR, cR, hvR, hcR, _⟩ := own_slice ht3.r.row
      subst hvR
      have y2 : w3.cell? ⟨t, 2, none⟩ = some (.slice AR rq.length cR) := cell_of_heap ht3.head
      have hb3 := k3.heap hbl.out (by show ¬ F w.heap.size; intro h; have := hFB _ h; omega)
      have r0 : w3.cell? ⟨w.heap.size, 0, none⟩ = some (.slice none 0 0) := cell_of_heap hb3
      have r1 : w3.cell? ⟨w.heap.size, 1, none⟩ = some (.slice none 0 0) := cell_of_heap hb3
      have rf : ∀ i, w3.frozen? ⟨w.heap.size, i, none⟩ = false := fun i => frozen_of_heap hb3
      have hcr := lcrash_any w3.drew F3 g vA3 vB3 _ [] (syncJ j) 0 (hn3.keep (Keeps.refl _ _).drew) (by omega) (by omega) (by simp [syncJ]) (crashJ_len hn3.good 0)
      have hcs : crashJ (syncJ j) 0 = ((syncJ j).dA, (syncJ j).dB) := rfl
      rw [hcs] at hcr
      have hla := hn3.good.la
      have hlb := hn3.good.lb
      go_upto_region 8 with fail
      refine wp_region_tree (fun w' => w'.cell? ⟨t, 2, none⟩ = some (.slice AR rq.length cR)) 8
        (.take 0 (.take 2 (.take 3 (.take 4 (.take 5 (.one 1 (.one 6 (.take 7 .tail)))))))) (by kernel_rfl) (by kernel_rfl) y2 ?_
      iterate 5 (refine pt_take (v := ?_) (by rfl) (by first | rfl | kernel_rfl) (fun w' hS => ?_) ?_; rotate_left 1; (go_simp <;> (try with_reducible rfl)); (simp only [Act.put, List.setIfInBounds_toArray, List.set_cons_zero, List.set_cons_succ]))
      refine pt_one (by rfl) (loudly_of (by first | rfl | kernel_rfl) (fun K hK => ?_))
      go_wp2_with (go_at_call 25; refine hcr.mono ?_)
      rintro e w4 ⟨vX, vY, rfl, hX, hY, hXY, k4⟩
      clear hcr
      replace k4 := k4.ofDrew
      obtain ⟨AX, cX, hvX, _, _⟩ := hX.slice
      obtain ⟨AY, cY, hvY, _, _⟩ := hY.slice
      refine hK _ _ ((k4.cell (p := ⟨t, 2, none⟩) (lt_of_cell y2) trivial).trans y2) ?_
      clear hK K
      have hb4 := k4.heap hb3 trivial
      have q0 : w4.cell? ⟨w.heap.size, 0, none⟩ = some (.slice none 0 0) := cell_of_heap hb4
      have q1 : w4.cell? ⟨w.heap.size, 1, none⟩ = some (.slice none 0 0) := cell_of_heap hb4
      have qf : ∀ i, w4.frozen? ⟨w.heap.size, i, none⟩ = false := fun i => frozen_of_heap hb4
      subst hvX hvY
      have ht4 := ht3.keep (k4.old _)
      have hRl : rq.length = R.length := by rw [← HH.out.recs]; simp
      have hRn : rq.length ≤ 281474976710656 := by have := hG.end_; have := hG.nr; have := HH.out.rec_.log.nr; omega
      have HF := hid (And.intro k4 (And.intro hX (And.intro hY (And.intro hXY (And.intro hla hlb)))))
      have HB4 := hid hb4
      have HT4 := hid ht4
      clear hX hY hXY hn3 ht3 ht4 hb3 hb4 r0 r1 rf y2 hcs
      have u2 : w4.cell? ⟨t, 2, none⟩ = some (.slice AR rq.length cR) := cell_of_heap HT4.out.head
      have htr : t ≠ w.heap.size := fun e => by have := hTB t HH.out.tale.ft; have h2 := HZ.out; omega
      obtain ⟨W5, hW5⟩ : ∃ W, W = (w4.setCell ⟨w.heap.size, 0, none⟩ (.slice AX (syncJ j).dA.length cX)).setCell ⟨w.heap.size, 1, none⟩ (.slice AY (syncJ j).dB.length cY) := ⟨_, rfl⟩
      have k5 : Keeps (· ≠ w.heap.size) w4 W5 := by rw [hW5]; exact keeps_two _ _
      have hb5 : W5.heap[w.heap.size]? = some (.cells #[.slice AX (syncJ j).dA.length cX, .slice AY (syncJ j).dB.length cY] 24 (0, 0)) := by rw [hW5]; exact set_two HB4.out _ _
      have u5 := (k5.cell (p := ⟨t, 2, none⟩) (lt_of_cell u2) htr).trans u2
      refine pt_one (by rfl) (loudly_of (by first | rfl | kernel_rfl) (fun K hK => ?_))
      go_wp2
      rw [← hW5]
      clear hW5
      refine hK _ _ u5 ?_
      clear hK K
      (refine pt_take (v := ?_) (by rfl) (by first | rfl | kernel_rfl) (fun w' hS => ?_) ?_; rotate_left 1; (go_simp <;> (try with_reducible rfl)); (simp only [Act.put, List.setIfInBounds_toArray, List.set_cons_zero, List.set_cons_succ]))
      refine pt_tail (by rfl) ?_
      go_wp2
      refine NoPanic.normal ?_
      go_wp2
      obtain ⟨j1, hX, hY, hXY, hla, hlb⟩ := HF.out
      obtain ⟨AR', cR', hAR, hcR', hRR⟩ := HT4.out.r.rcs hRn
      injection hAR with hA1 _ hA3
      subst hA1 hA3
      rw [HH.out.recs] at hRR
      have hTr : ∀ k, T k → k ≠ w.heap.size := fun k hk e => by have := hTB k hk; have h2 := HZ.out; omega
      have hz4 := k4.size
      have hz5 := k5.size
      have hw3 : w.heap.size < w3.heap.size := by have h2 := HZ.out; omega
      have hnb : ∀ k, w3.drew.heap.size ≤ k → k ≠ w.heap.size := fun k hk => by have h' : w3.heap.size ≤ k := hk; omega
      refine written_end rfl rfl rfl hb5 ⟨syncJ j, R, _, _, AR, cR, by first | rfl | rw [hRl], (hX.keep (k5.mono fun k _ hk => hnb k hk)).mono fun k _ hk => by have h' : w3.heap.size ≤ k := hk; omega, (hY.keep (k5.mono fun k _ hk => hnb k hk)).mono fun k _ hk => by have h' : w3.heap.size ≤ k := hk; omega, hXY, by omega,
        (hRR.keep (k5.mono fun k _ hk => hTr k hk)).mono fun k _ hk => by have := hTB k hk; have h2 := HZ.out; omega, rfl, HDM.out, ?_, hla, hlb, ?_⟩
      · have := HH.out.rec_.log
        exact ⟨this.cur, this.end_, this.nr⟩
      · exact ((hold.trans k3 fun k hk _ h => by have := hFB k h; have h2 := HZ.out; omega).trans' j1).trans k5 fun k hk _ => by show k ≠ _; omega


/-! ### a changed byte -/

theorem OwnB.set_ {F : Nat → Prop} {w : World} {bb cap x : Nat} {bs : List UInt8} (ho : OwnB F w (.slice (some ⟨bb, 0, none⟩) bs.length cap) bs) (hx : x < bs.length) (y : UInt8) :
    OwnB F (w.setCell ⟨bb, x, none⟩ (bv y)) (.slice (some ⟨bb, 0, none⟩) bs.length cap) (bs.set x y) := by
  refine ⟨?_, ho.foot, by simpa using ho.len⟩
  rcases ho.row.2 with ⟨_, h0⟩ | ⟨g', cap', cur, hv', _, hg, hnc, hcm, hcs, ht⟩
  · have h0' : bs.length = 0 := h0; omega
  injection hv' with hA _ hcc
  injection hA with hA
  injection hA with hA
  subst hA; subst hcc
  refine ⟨by simp, .inr ⟨bb, cap, cur.setIfInBounds x (bv y), by simp, Nat.zero_le _, heap_setCell hg _, by simpa using hnc, hcm, by simpa using hcs, ?_⟩⟩
  rw [Array.toList_setIfInBounds, List.take_set, List.length_set, ht, List.map_set]
theorem OwnB.block_ {F : Nat → Prop} {w : World} {v : Value} {x : Nat} {bs : List UInt8} (ho : OwnB F w v bs) (hx : x < bs.length) :
    ∃ bb cap, v = .slice (some ⟨bb, 0, none⟩) bs.length cap ∧ F bb ∧ bs.length ≤ cap ∧ w.cell? ⟨bb, x, none⟩ = some (bv bs[x]) ∧ w.frozen? ⟨bb, x, none⟩ = false := by
  rcases ho.row.2 with ⟨_, h0⟩ | ⟨bb, cap, cur, hv', _, hgb, hnc, hcm, hcs, ht⟩
  · have h0' : bs.length = 0 := h0; omega
  refine ⟨bb, cap, hv', ho.foot bb (by rw [hv']; rfl), hnc, ?_, frozen_of_heap hgb⟩
  rw [cell_of_heap hgb]
  have e : (cur.toList.take (bs.length * 1))[x]? = (bs.map bv)[x]? := by rw [ht]
  rw [List.getElem?_take, if_pos (by omega)] at e
  simpa [hx] using e

theorem xor_ne {a m : UInt8} (h : m ≠ 0) : a ^^^ m ≠ a := fun e => h (by
  have h2 : a ^^^ (a ^^^ m) = a ^^^ a := by rw [e]
  rw [← UInt8.xor_assoc, UInt8.xor_self, UInt8.zero_xor] at h2
  exact h2)

end Go.Proofs.YtdpaaoeipconcaaDoor

