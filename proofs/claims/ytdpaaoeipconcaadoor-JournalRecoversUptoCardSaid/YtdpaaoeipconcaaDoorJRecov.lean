/- weftlaw12.JournalRecovers: crash on crash, what is opened has the records behind the last write that got down whole, and goes on from there. Conditions: the script can be read, the table lies. -/
import Derived.Test.YtdpaaoeipconcaaDoorJBegun
import Derived.Test.YtdpaaoeipconcaaDoorJArgs
namespace Go.Proofs.YtdpaaoeipconcaaDoor
open Go.RowKit

theorem rec_len {j : Jn} {R0 : Recs} {rest : List (Recs × Nat)} {R : Recs} (h : RecJ j R0 rest R) : (∀ r ∈ R, r.length ≤ 65536) ∧ 16 + sizeF R ≤ 1048576 := ⟨h.log.cur.area.len, h.log.cur.area.size⟩

/-- the one point is at nothing -/
theorem TaleM.atZero {T : Nat → Prop} {w : World} {t gP cP : Nat} {vG vR : Value} {gi : List (Recs × Value)} {gl : List Value} {p : Pt} {rq : List (List UInt8 × Value)} {size written : Nat}
    (h : TaleM T w t vG (.slice (some ⟨gP, 0, none⟩) 1 cP) vR gi gl [p] rq size written) : TaleM T (w.setCell ⟨gP, 2, none⟩ (.int .i64 0)) t vG (.slice (some ⟨gP, 0, none⟩) 1 cP) vR gi gl [⟨p.gen, p.n, 0⟩] rq size written := by
  obtain ⟨a1, a2, a3, a4, a5⟩ := h.apart
  have K : Keeps (· ≠ gP) w (w.setCell ⟨gP, 2, none⟩ (.int .i64 0)) := (Keeps.refl _ _).setCell (fun _ h => h rfl) _
  refine ⟨K.heap h.head (fun e => a2 (by rw [e]; rfl)), own_keeps h.g K (fun k hk e => (a4 k hk).1 (by rw [e]; rfl)), h.gf, ?_, h.pf, h.r.keepS K (fun k hk e => a5 gP rfl (by rw [← e]; exact hk)) (fun x hx k hk e => (h.bytes _ _ _ (h.r.own x hx).row k hk).2.2.1 (by rw [e]; rfl)), fun x hx => ?_, h.ft, fun k hk => Nat.lt_of_lt_of_le (h.lt k hk) K.size⟩
  · have hp := h.p
    obtain ⟨hl, hp | ⟨g, cap, cur, hv, hb, hg, hnc, hcm, hcs, ht⟩⟩ := hp
    · simp at hp
    · injection hv with hA _ hc
      injection hA with hA
      injection hA with hA _ _
      subst hA hc
      refine ⟨rfl, .inr ⟨gP, cP, cur.setIfInBounds 2 (.int .i64 0), rfl, hb, heap_setCell hg _, hnc, hcm, by simpa using hcs, ?_⟩⟩
      rw [Array.toList_setIfInBounds, List.take_set]
      show (cur.toList.take ([p].length * 3)).set 2 (.int .i64 0) = _
      rw [ht]
      rfl
  · obtain ⟨A, c', e, h1, h2⟩ := h.gv x hx
    exact ⟨A, c', e, h1, h2.keep (K.mono fun k _ hs e => hs.2.2.2.1 (by rw [e]; rfl))⟩

theorem own_frozenN {w : World} {b e s n c g : Nat} {xs : List Value} (h : w.ownsRow b e s (.slice (some ⟨g, 0, none⟩) n c) n xs) : ∀ i, w.frozen? ⟨g, i, none⟩ = false := by
  obtain ⟨hl, h | ⟨g', cap, cur, hv, hb, hg, rest⟩⟩ := h
  · simp at h
  · injection hv with hA _ _
    injection hA with hA
    injection hA with hA _ _
    subst hA
    exact fun i => frozen_of_heap hg

/-- ahead of a round -/
def InRec (w : World) (k g t : Nat) (wr : World) : Prop := ∃ R0 rest R j, TJs (k + 1) (fun k => w.heap.size ≤ k) wr g t j R0 rest R ∧ Old w wr

set_option maxRecDepth 10000 in
set_option maxHeartbeats 16000000 in
theorem recovers_any (w : World) (S : Nat → Prop) (C : Option Addr) (cc : Nat) (l : List OpJ) (hO : Ops S w C l) (hS : ∀ k, S k → k < w.heap.size) (hT : Tab w) :
    Calls Tryd.prog 11 #[.slice C l.length cc] w fun e w' => e = .returned (.bool true) ∧ Old w w' := by
  have hl0 := hO.1
  have hpos := hT.pos
  go_enter Tryd.func11, Tryd.ntmps11
  go_wp2_with fail
  refine (first_any w hT).mono ?_
  rintro e w1 ⟨rfl, k1⟩
  have z1 := k1.size
  go_wp2_with fail
  refine (begun2_any w1 (hT.keep (k1.old (fun _ => True)) trivial)).mono ?_
  rintro e w2 ⟨g0, t0, rfl, hTJ, k2⟩
  have HS := hid (show InRec w 0 g0 t0 w2 from ⟨[], [], [], exJ0, by
    obtain ⟨F, T, vA, vB, vP, q, uG, uP, uR, gi, pts, rq, hh, n1, n2, n3, hFB, hTB⟩ := hTJ
    exact ⟨F, T, vA, vB, vP, q, uG, uP, uR, gi, pts, rq, hh, n1, n2, n3, fun k hk => by have := hFB k hk; omega, fun k hk => by have := hTB k hk; omega⟩, k1.trans' k2⟩)
  clear hTJ k1 k2
  go_wp2
  go_loopw [3, 4, 5] (fun lv tv i wr => ∃ k g t : Nat, i = .int .i64 k ∧ k ≤ l.length ∧ lv = .pointer (some ⟨g, 0, none⟩) ∧ tv = .pointer (some ⟨t, 0, none⟩) ∧ Hid (InRec w k g t wr)) (fun _ _ i _ => l.length - (intOf i).toNat)
  case atStart => exact ⟨0, g0, t0, rfl, Nat.zero_le _, rfl, rfl, HS⟩
  case round =>
    clear HS
    obtain ⟨k, g, t, rfl, hk, rfl, rfl, hin⟩ := hrel
    obtain ⟨R0, rest, R, j, htj, hold⟩ := hin.out
    clear hin
    have hzo := hold.size
    by_cases hlt : k < l.length
    · obtain ⟨b, o, rfl, hSb, A1, c1, B1, d1, h0, h1, h2, h3, h4, h5, h6, h7, h8, h9, h10⟩ := (hO.keep (hold.old _)).at_ (j := k) hlt
      generalize l[k] = x at *
      have i1 : (0 : Int) ≤ (k : Int) := by omega
      have i2 : (k : Int) < (l.length : Int) := by omega
      obtain ⟨wa, hwa⟩ : ∃ wa, wa = wr.alloc (.cells #[.int .i64 x.kind, .slice A1 x.one.length c1, .slice B1 x.many.length d1, .int .i64 x.n] 54) := ⟨_, rfl⟩
      have ka : Old wr wa := by rw [hwa]; exact (Keeps.refl _ _).alloc _
      have hba : wa.heap[wr.heap.size]? = some (.cells #[.int .i64 x.kind, .slice A1 x.one.length c1, .slice B1 x.many.length d1, .int .i64 x.n] 54 (0, 0)) := by rw [hwa]; exact heap_alloc_new _ _
      have y0 : wa.cell? ⟨wr.heap.size, 0, none⟩ = some (.int .i64 x.kind) := cell_of_heap hba
      have y1 : wa.cell? ⟨wr.heap.size, 1, none⟩ = some (.slice A1 x.one.length c1) := cell_of_heap hba
      have y2 : wa.cell? ⟨wr.heap.size, 2, none⟩ = some (.slice B1 x.many.length d1) := cell_of_heap hba
      have y3 : wa.cell? ⟨wr.heap.size, 3, none⟩ = some (.int .i64 x.n) := cell_of_heap hba
      have za := ka.size
      obtain ⟨F, T, vA, vB, vP, q, uG, uP, uR, gi, pts, rq, hh, n1, n2, n3, hFB, hTB⟩ := htj
      have hha : TJ F T wa g t vA vB vP q uG uP uR gi pts rq j R0 rest R := ⟨hh.net.keep (ka.old _), hh.tale.keep (ka.old _), hh.recs, hh.hist, hh.apart, hh.rec_⟩
      clear hh
      have HH := hid hha
      clear hha h4 h5
      have Ka := hold.trans' ka
      have hTa := hT.keep (Ka.old (fun _ => True)) trivial
      by_cases hk7 : x.kind = 7
      · have f7 : (x.kind == 7) = true := by rw [hk7]; rfl
        have HK7 := hid hk7
        clear hk7
        have hrec := HH.out.rec_
        have hdo := hrec.hist x.n
        obtain ⟨j2, hop, hrec2, hdr2, hws2⟩ := rec_open hdo
        have hlen2 := rec_len hrec2
        have hRl := rec_len hrec
        have hrql : rq.length ≤ 281474976710656 := by
          have h1 := congrArg List.length HH.out.recs
          rw [List.length_map] at h1
          have := sizeF_num R
          omega
        have hh' := HH.out.hist
        rw [← HH.out.recs] at hh'
        have hat := fun W (hW : Old wa W) => at_any W T t uG uP uR gi pts rq (16 + sizeF R) (dirtyN j.ws) (HH.out.tale.keep (hW.old _)) hrql R0 rest hh' x.n (by omega)
        generalize atP R0 rest x.n = tar at *
        have hcr := lcrash_any wa F g vA vB vP q j x.n HH.out.net h9 h10 (by omega) (crashJ_len HH.out.net.good x.n)
        have hcl := crashJ_len HH.out.net.good x.n
        generalize crashJ j x.n = dd at *
        obtain ⟨sz, hsz⟩ : ∃ sz, sz = 16 + sizeF tar := ⟨_, rfl⟩
        have hsn := sizeF_num tar
        have HAT := hid hat
        have HR2 := hid hrec2
        have HL2 := hid hlen2
        have HOP := hid hop
        have HDR := hid hdr2
        have HSZ := hid hsz
        clear hat hh' hdo hrec hrec2 hlen2 hRl hop hdr2 hsz
        go_upto_region 8 with fail
        rw [← hwa]
        clear hwa
        go_wp2_with fail
        refine hcr.mono ?_
        rintro e w4 ⟨vX, vY, rfl, hX, hY, _, k4⟩
        clear hcr
        obtain ⟨AX, cX, hvX, hcX, _⟩ := hX.slice
        obtain ⟨AY, cY, hvY, hcY, _⟩ := hY.slice
        subst hvX hvY
        have K4 := Ka.trans' k4
        have ho := lopen_any w4 (fun _ => True) AX AY _ _ cX cY _ _ (hX.bts.mono' fun _ _ => trivial) (hY.bts.mono' fun _ _ => trivial) rfl rfl hcX hcY (hT.keep (K4.old (fun _ => True)) trivial)
        have e0 : (dd.1, dd.2) = dd := rfl
        rw [e0, HOP.out] at ho
        clear e0 hX hY HOP
        generalize dd.1 = xs at *
        generalize dd.2 = ys at *
        go_wp2_with fail
        refine ho.mono ?_
        rintro e w5 ⟨F13, g13, a13, b13, p13, q13, L13, ql, rfl, hL13, hF13, hq13, hO13, k5⟩
        clear ho
        have hqn : ql.length = tar.length := by rw [← hq13]; simp
        have hql : ql.length ≤ 100000 := by have := HL2.out.2; omega
        obtain ⟨A13, c13, hL13', hc13, hR13⟩ := hO13.rcs (by omega)
        subst hL13'
        rw [hq13] at hR13
        have K5 := K4.trans' k5
        have z4 := K4.size
        have z5 := k5.size
        have k45 := k4.trans' k5
        have y3' : w5.cell? ⟨wr.heap.size, 3, none⟩ = some (.int .i64 x.n) := (k45.cell (p := ⟨wr.heap.size, 3, none⟩) (lt_of_cell y3) trivial).trans y3
        have hat := HAT.out w5 k45
        clear HAT y0 y1 y2 y3 h0 h1 h2 h3
        have HQN := hid hqn
        have HQ13 := hid hq13
        clear hqn hq13
        go_upto_region 10 with fail
        go_wp2_with fail
        refine hat.mono ?_
        rintro e w6 ⟨AT, cT, rfl, hcT, hRT, n6, hw6⟩
        clear hat
        have k6 : Old w5 w6 := by rw [← hw6]; exact (Keeps.refl _ _).drewN _
        clear hw6
        have hli := lists_any w6 _ _ A13 AT c13 cT tar tar (hR13.keep (k6.old _)) (hRT.keep (k6.old _))
        rw [decide_eq_true rfl, ← HQN.out] at hli
        rw [← HQN.out]
        go_wp2_with fail
        refine hli.mono ?_
        rintro e w7 ⟨rfl, n7, hw7⟩
        clear hli hRT
        have k7 : Old w6 w7 := by rw [← hw7]; exact (Keeps.refl _ _).drewN _
        clear hw7
        have k57 := k6.trans' k7
        have hL7 := hL13.keep (k57.old _)
        have hO7 := hO13.keep (k57.old _)
        have hsg := size_any w7 _ A13 c13 tar (hR13.keep (k57.old _)) HL2.out.1 (by have := HQN.out; omega)
        rw [← HSZ.out, ← HQN.out] at hsg
        go_wp2_with fail
        refine hsg.mono ?_
        rintro e w7' ⟨rfl, rfl⟩
        clear hsg
        have hdi := ldirty_any hL7 (by omega)
        obtain ⟨dn, hdn⟩ : ∃ dn, dn = dirtyN j2.ws := ⟨_, rfl⟩
        rw [← hdn] at hdi
        have HDN := hid hdn
        clear hdn
        go_wp2_with fail
        refine hdi.mono ?_
        rintro e w8 ⟨rfl, k8⟩
        clear hdi
        have k58 := k57.trans' k8
        have z8 := k58.size
        have hL8 := hL13.keep (k58.old _)
        have hO8 := hO13.keep (k58.old _)
        obtain ⟨W9, hW9⟩ : ∃ W, W = w8.alloc (.cells #[.slice none 0 0, .slice none 0 0, .slice A13 ql.length c13, .int .i64 (sz : Int), .int .i64 (dn : Int)] 60) := ⟨_, rfl⟩
        have k9 : Old w8 W9 := by rw [hW9]; exact (Keeps.refl _ _).alloc _
        have hb9 : W9.heap[w8.heap.size]? = some (.cells #[.slice none 0 0, .slice none 0 0, .slice A13 ql.length c13, .int .i64 (sz : Int), .int .i64 (dn : Int)] 60 (0, 0)) := by rw [hW9]; exact heap_alloc_new _ _
        have hz9 : W9.heap.size = w8.heap.size + 1 := by rw [hW9]; simp
        have ht9 : TaleM (fun k => k = w8.heap.size ∨ (w4.heap.size ≤ k ∧ ¬ F13 k ∧ k < w8.heap.size)) W9 w8.heap.size (.slice none 0 0) (.slice none 0 0) (.slice A13 ql.length c13) [] [] [] ql sz dn :=
          ⟨hb9, World.ownsRow_nil _ _ _ _, by simp [Value.ownBlock], World.ownsRow_nil _ _ _ _, by simp [Value.ownBlock], (hO8.mono fun k hk h => by
            right
            exact ⟨h.1, h.2, hk⟩).keep (k9.old _), by simp, .inl rfl, fun k hk => by rcases hk with rfl | hk <;> omega⟩
        have hno := note_new W9 _ w8.heap.size _ _ [] ql sz dn ht9 (by simp)
        go_upto_region 14 with fail
        rw [← hW9]
        clear hW9
        go_wp2_with fail
        refine hno.mono ?_
        rintro e w10 ⟨rfl, T10, uG10, uP10, ht10, hT10, k10⟩
        clear hno
        have ht10' : TaleM T10 w10 w8.heap.size uG10 uP10 (.slice A13 ql.length c13) [] [.slice A13 ql.length c13] [⟨0, ql.length, dn⟩] ql sz dn := ht10
        clear ht10
        obtain ⟨gP, cP, hvP, hcP, _, hcells⟩ := own_cellN ht10'.p (by simp)
        rw [show ([⟨0, ql.length, dn⟩] : List Pt).length = 1 by rfl] at hvP hcP
        subst hvP
        have hcl2 := hcells 2 (by simp)
        have hfz : ∀ i, w10.frozen? ⟨gP, i, none⟩ = false := own_frozenN ht10'.p
        have e1 : w10.cell? ⟨w8.heap.size, 1, none⟩ = some (.slice (some ⟨gP, 0, none⟩) 1 cP) := cell_of_heap ht10'.head
        have e2 : w10.cell? ⟨gP, 2, none⟩ = some (.int .i64 (dn : Int)) := hcl2
        clear hcells hcl2
        obtain ⟨W11, hW11⟩ : ∃ W, W = w10.setCell ⟨gP, 2, none⟩ (.int .i64 0) := ⟨_, rfl⟩
        have ht11 := ht10'.atZero
        have k11 : Keeps (· ≠ gP) w10 W11 := by rw [hW11]; exact (Keeps.refl _ _).setCell (fun _ h => h rfl) _
        rw [← hW11] at ht11
        have hF13l := hL13.lt
        have hgP : T10 gP := ht10'.pf gP rfl
        have hFT : ∀ k, F13 k → ¬ T10 k := fun k hk hT => by
          have := hF13l k hk
          rcases hT10 k hT with (h | h) | h
          · omega
          · exact h.2.1 hk
          · omega
        have hn11 : LNet F13 W11 g13 a13 b13 p13 q13 j2 := ((hL8.keep (k9.old _)).keep (k10.mono fun k _ hk h => by
          have := hF13l k hk
          rcases h with h | h
          · omega
          · exact h.2.1 hk)).keep (k11.mono fun k _ hk e => hFT k hk (by rw [e]; exact hgP))
        have hK11 : Old w W11 := (((K5.trans' k58).trans' k9).trans k10 fun k hk _ h => by
          rcases h with h | h
          · omega
          · omega).trans k11 fun k hk _ e => by
          rcases hT10 gP hgP with (h | h) | h <;> omega
        have hTB' : ∀ k, T10 k → w.heap.size ≤ k := fun k hk => by
          rcases hT10 k hk with (h | h) | h <;> omega
        have hFB' : ∀ k, F13 k → w.heap.size ≤ k := fun k hk => by have := hF13 k hk; omega
        have HR : Hid (∀ n, InRec w (k + 1) g13 w8.heap.size (W11.drewN n)) := hid fun n => ⟨tar, [], tar, j2, ⟨F13, T10, a13, b13, p13, q13, _, _, _, [], [⟨0, ql.length, 0⟩], ql, ⟨hn11.keep ((Keeps.refl _ _).drewN _), by
          have := ht11.keep ((Keeps.refl _ _).drewN n)
          rw [HSZ.out, HDN.out] at this
          exact this, HQ13.out, (HistOK.nil _).push (ptOK_last (gi := []) HQ13.out 0), hFT, HR2.out⟩, by omega, by simp, by simp, hFB', hTB'⟩, hK11.trans' ((Keeps.refl _ _).drewN _)⟩
        have he2 := HR2.out.log.end_
        have hq : ∀ n, Calls Tryd.prog 21 #[.pointer (some ⟨g13, 0, none⟩)] (W11.drewN n) fun e w' => e = .returned (.int .i64 (sz : Int)) ∧ ∃ k, w' = W11.drewN k := fun n => by
          have h := lsize_any (hn11.keep ((Keeps.refl _ _).drewN n))
          rw [he2, ← HSZ.out] at h
          exact h.mono fun e w' ⟨h, hk⟩ => ⟨h, n, hk.symm⟩
        have HQ := hid hq
        have e3 : W11.cell? ⟨w8.heap.size, 3, none⟩ = some (.int .i64 (sz : Int)) := cell_of_heap ht11.head
        have e4 : W11.cell? ⟨w8.heap.size, 4, none⟩ = some (.int .i64 (dn : Int)) := cell_of_heap ht11.head
        have hdz : dn = 0 ∨ (dn = 16 ∧ ql.length = 0) := by
          rcases HDR.out with h | ⟨h, h0⟩
          · left; rw [HDN.out, h]
          · right; exact ⟨by rw [HDN.out, h], by rw [HQN.out, h0]; rfl⟩
        clear he2 hq hn11 ht11 ht10' ht9 hK11 hTB' hFB' hFT hF13l hL13 hL8 hL7 hO7 hO8 hO13 hb9 k10 hF13 hR13 hT10
        go_upto_region 16 with fail
        rw [← hW11]
        clear hW11 e1 e2 hfz
        rcases hdz with rfl | ⟨rfl, hq0⟩
        · go_quiet (first | (go_at_call 21; with_reducible exact HQ.out _))
          go_wp2
          exact ⟨⟨k + 1, g13, w8.heap.size, by go_num, by omega, rfl, rfl, hid (HR.out _)⟩, by simp [intOf]; omega⟩
        · go_quiet (first | (go_at_call 21; with_reducible exact HQ.out _))
          go_wp2
          exact ⟨⟨k + 1, g13, w8.heap.size, by go_num, by omega, rfl, rfl, hid (HR.out _)⟩, by simp [intOf]; omega⟩
      · have f7 : (x.kind == 7) = false := by rw [beq_eq_false_iff_ne]; exact hk7
        have htl := tell_any wa g t j R0 rest R (k + 1) (fun k => w.heap.size ≤ k) S ⟨F, T, vA, vB, vP, q, uG, uP, uR, gi, pts, rq, HH.out, n1, n2, n3, hFB, hTB⟩ (by omega) x.kind x.n A1 B1 c1 d1 x.one x.many (h7.keep (ka.old _)) (h8.keep (ka.old _)) h6 (fun k hk => by have := hS k hk; omega) hTa
        clear hk7
        go_upto_region 8 with fail
        rw [← hwa]
        clear hwa
        go_wp2_with fail
        refine htl.mono ?_
        rintro e w3 ⟨rfl, R0', rest', R', htj', k3⟩
        clear htl
        obtain ⟨F', T', vA', vB', vP', q', uG', uP', uR', gi', pts', rq', hh', n1', n2', n3', hFB', hTB'⟩ := htj'
        have HR := hid (show InRec w (k + 1) g t w3 from ⟨R0', rest', R', _, ⟨F', T', vA', vB', vP', q', uG', uP', uR', gi', pts', rq', hh', n1', n2', n3', fun k hk => by
          rcases hFB' k hk with h | h
          · exact h
          · show w.heap.size ≤ k
            omega, fun k hk => by
          rcases hTB' k hk with h | h
          · exact h
          · show w.heap.size ≤ k
            omega⟩, Ka.trans k3 fun k hk _ => by show ¬ w.heap.size ≤ k; omega⟩)
        clear hh' hFB' hTB' k3
        go_wp2
        exact ⟨⟨k + 1, g, t, by go_num, by omega, rfl, rfl, HR⟩, by simp [intOf]; omega⟩
    · obtain rfl : k = l.length := by omega
      have i2 : ¬ ((l.length : Nat) : Int) < (l.length : Int) := by omega
      obtain ⟨F, T, vA, vB, vP, q, uG, uP, uR, gi, pts, rq, hh, n1, n2, n3, hFB, hTB⟩ := htj
      have hG := hh.net.good
      have hdl : dirtyN j.ws ≤ 1048576 * 4000000000000 := by
        have := dirtyN_le j.ws fun x hx => by have := hG.wl x hx; omega
        omega
      have hdi := ldirty_any hh.net (by omega)
      obtain ⟨jo, hop⟩ := rec_all hh.rec_ (fits_ne _ _ hG.fits)
      have hrl := rec_len hh.rec_
      have hsn := sizeF_num R
      have hcl := crashJ_len hG (dirtyN j.ws : Nat)
      have HH := hid hh
      have HOP := hid hop
      clear hh hop
      go_wp2_with fail
      refine hdi.mono ?_
      rintro e w3 ⟨rfl, k3⟩
      clear hdi
      have hcr := lcrash_any w3 F g vA vB vP q j (dirtyN j.ws : Nat) (HH.out.net.keep (k3.old _)) (by omega) (by omega) (by omega) hcl
      go_wp2_with fail
      refine hcr.mono ?_
      rintro e w4 ⟨vX, vY, rfl, hX, hY, _, k4⟩
      clear hcr
      obtain ⟨AX, cX, hvX, hcX, _⟩ := hX.slice
      obtain ⟨AY, cY, hvY, hcY, _⟩ := hY.slice
      subst hvX hvY
      have K4 := (hold.trans' k3).trans' k4
      have ho := lopen_any w4 (fun _ => True) AX AY _ _ cX cY _ _ (hX.bts.mono' fun _ _ => trivial) (hY.bts.mono' fun _ _ => trivial) rfl rfl hcX hcY (hT.keep (K4.old (fun _ => True)) trivial)
      have e0 : ((crashJ j (dirtyN j.ws : Nat)).1, (crashJ j (dirtyN j.ws : Nat)).2) = crashJ j (dirtyN j.ws : Nat) := rfl
      rw [e0, HOP.out] at ho
      clear e0
      generalize (crashJ j (dirtyN j.ws : Nat)).1 = xs at *
      generalize (crashJ j (dirtyN j.ws : Nat)).2 = ys at *
      clear hX hY
      go_wp2_with fail
      refine ho.mono ?_
      rintro e w5 ⟨F13, g13, a13, b13, p13, q13, L13, ql, rfl, hL13, hF13, hq13, hO13, k5⟩
      clear ho hL13 hF13
      have hqn : ql.length = R.length := by rw [← hq13]; simp
      obtain ⟨A13, c13, hL13', hc13, hR13⟩ := hO13.rcs (by omega)
      subst hL13'
      rw [hqn] at hc13 ⊢
      rw [hq13] at hR13
      have ht5 := HH.out.tale.keep (((k3.trans' k4).trans' k5).old _)
      have hrn : rq.length = R.length := by rw [← HH.out.recs]; simp
      obtain ⟨AR, cR, hAR, hcR, hRR⟩ := ht5.r.rcs (by omega)
      subst hAR
      rw [hrn] at hcR
      rw [HH.out.recs] at hRR
      have c2 : w5.cell? ⟨t, 2, none⟩ = some (.slice AR R.length cR) := by rw [← hrn]; exact cell_of_heap ht5.head
      have hli := lists_any w5 _ _ A13 AR c13 cR R R hR13 hRR
      rw [decide_eq_true rfl] at hli
      have K5 := K4.trans' k5
      clear hqn hq13 hO13 hR13 hRR ht5 hrn
      go_wp2_with fail
      refine hli.mono ?_
      rintro e w6 ⟨rfl, n6, hw6⟩
      clear hli
      go_wp2
      go_ret
      refine ⟨rfl, ?_⟩
      rw [← hw6]
      exact K5.trans' ((Keeps.refl _ _).drewN _)

end Go.Proofs.YtdpaaoeipconcaaDoor

