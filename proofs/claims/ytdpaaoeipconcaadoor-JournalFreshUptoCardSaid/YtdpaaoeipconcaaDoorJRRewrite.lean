/- weftref12.Log.Rewrite: a new generation, or the error. Conditions: the journal lies, the records can be read and do not lie in it, not too many writes are waiting. -/
import Derived.Test.YtdpaaoeipconcaaDoorJRewrite
import Derived.Test.YtdpaaoeipconcaaDoorJRAppend
import Derived.Test.YtdpaaoeipconcaaDoorMPlan
namespace Go.Proofs.YtdpaaoeipconcaaDoor
open Go.RowKit

/-- The document's journal's cells, whatever they say. -/
structure RRaw (F : Nat → Prop) (w : World) (g : Nat) (vA vB vP : Value) (q : List (Wr × Value)) (j : Jn) : Prop where
  head : w.heap[g]? = some (.cells #[vA, vB, vP, .int .i64 (j.cur : Int), .int .i64 (j.gen : Int), .int .i64 (j.nr : Int), .int .i64 (j.end_ : Int)] 91 (0, 0))
  a : OwnB F w vA j.dA
  b : OwnB F w vB j.dB
  p : Pend 93 F w vP q
  pq : q.map (·.1) = j.ws
  fg : F g
  lt : ∀ k, F k → k < w.heap.size

section
variable {F G : Nat → Prop} {w w' w4 : World} {g : Nat} {vA vB vP v2 : Value} {q : List (Wr × Value)} {j j' : Jn} {x : Wr × Value}
theorem RNet.raw (h : RNet F w g vA vB vP q j) : RRaw F w g vA vB vP q j := ⟨h.head, h.a, h.b, h.p, h.pq, h.fg, h.lt⟩
theorem RRaw.net (h : RRaw F w g vA vB vP q j) (hg : Good j) : RNet F w g vA vB vP q j := ⟨h.head, h.a, h.b, h.p, h.pq, h.fg, h.lt, hg⟩
theorem RRaw.keep (h : RRaw F w g vA vB vP q j) (hk : Keeps F w w') : RRaw F w' g vA vB vP q j :=
  ⟨hk.heap h.head h.fg, h.a.keep hk, h.b.keep hk, h.p.keep hk, h.pq, h.fg, fun k hk' => Nat.lt_of_lt_of_le (h.lt k hk') hk.size⟩

/-- The journal's own numbers are set. -/
theorem RRaw.sets (h : RRaw F w g vA vB vP q j) (K : Keeps (· ≠ g) w w') (hh : w'.heap[g]? = some (.cells #[vA, vB, vP, .int .i64 (j'.cur : Int), .int .i64 (j'.gen : Int), .int .i64 (j'.nr : Int), .int .i64 (j'.end_ : Int)] 91 (0, 0)))
    (hA : j'.dA = j.dA) (hB : j'.dB = j.dB) (hws : j'.ws = j.ws) : RRaw F w' g vA vB vP q j' := by
  have nb : ∀ {v : Value} {n : Nat} {xs : List Value}, w.ownsRow 0 5 1 v n xs → ∀ k, v.ownBlock = some k → k ≠ g := fun hx k hk e => own_ne_heap hx h.head (by decide) (by rw [hk, e])
  exact ⟨hh, ⟨by rw [hA]; exact own_keeps h.a.row K (nb h.a.row), h.a.foot, by rw [hA]; exact h.a.len⟩, ⟨by rw [hB]; exact own_keeps h.b.row K (nb h.b.row), h.b.foot, by rw [hB]; exact h.b.len⟩,
    h.p.keepS K (fun k hk e => own_ne_heap h.p.row h.head (by decide) (by rw [hk, e])) (fun y hy => nb (h.p.own y hy).row), by rw [hws]; exact h.pq, h.fg, fun k hk => Nat.lt_of_lt_of_le (h.lt k hk) K.size⟩

/-- A write more. -/
theorem RRaw.push (h : RRaw F w g vA vB vP q j) (hv : OwnB G w x.2 x.1.bytes) (K : Keeps (fun k => vP.ownBlock ≠ some k) w w4) (hown : w4.ownsRow 0 93 3 v2 (q.length + 1) (row3 q ++ row3 [x])) :
    RRaw (fun k => F k ∨ (G k ∧ k < w.heap.size) ∨ v2.ownBlock = some k) (w4.setCell ⟨g, 2, none⟩ v2) g vA vB v2 (q ++ [x]) { j with ws := j.ws ++ [x.1] } := by
  have hgP : vP.ownBlock ≠ some g := own_ne_heap h.p.row h.head (by decide)
  have hh := K.heap h.head hgP
  have KS : Keeps (· ≠ g) w4 (w4.setCell ⟨g, 2, none⟩ v2) := (Keeps.refl _ _).setCell (fun _ h => h rfl) _
  have KB : Keeps (fun k => k ≠ g ∧ vP.ownBlock ≠ some k) w (w4.setCell ⟨g, 2, none⟩ v2) := (K.mono fun _ _ h => h.2).trans KS fun _ _ h => h.1
  have nb : ∀ {v : Value} {n : Nat} {xs : List Value}, w.ownsRow 0 5 1 v n xs → ∀ k, v.ownBlock = some k → k ≠ g ∧ vP.ownBlock ≠ some k := fun hx k hk =>
    ⟨fun e => own_ne_heap hx h.head (by decide) (by rw [hk, e]), own_ne hx h.p.row (by decide) hk⟩
  have hp := h.p.push (x := x) (by decide) K hv hown
  have nb4 : ∀ {v : Value} {n : Nat} {xs : List Value}, w4.ownsRow 0 5 1 v n xs → ∀ k, v.ownBlock = some k → k ≠ g := fun hx k hk e => own_ne_heap hx hh (by decide) (by rw [hk, e])
  have hp2 := hp.keepS KS (fun k hk e => own_ne_heap hown hh (by decide) (by rw [hk, e])) (fun y hy => nb4 (hp.own y hy).row)
  refine ⟨?_, ⟨own_keeps h.a.row KB (nb h.a.row), fun k hk => .inl (h.a.foot k hk), h.a.len⟩, ⟨own_keeps h.b.row KB (nb h.b.row), fun k hk => .inl (h.b.foot k hk), h.b.len⟩,
    ⟨hp2.row, fun y hy => ?_, fun k hk => .inr (.inr hk)⟩, by rw [List.map_append, h.pq]; rfl, .inl h.fg, fun k hk => ?_⟩
  · rw [heap_setCell hh]
    rfl
  · have ho := hp2.own y hy
    refine ⟨ho.row, fun k hk => ?_, ho.len⟩
    rcases ho.foot k hk with h1 | h1 | h1
    · exact .inl h1
    · rcases List.mem_append.1 hy with hy | hy
      · exact .inl ((h.p.own y hy).foot k hk)
      · obtain rfl : y = x := by simpa using hy
        exact .inr (.inl ⟨h1, own_lt hv.row hk⟩)
    · exact .inr (.inr h1)
  · rcases hk with hk | hk | hk
    · exact Nat.lt_of_lt_of_le (h.lt k hk) KB.size
    · exact Nat.lt_of_lt_of_le hk.2 KB.size
    · exact Nat.lt_of_lt_of_le (own_lt hown hk) KS.size
end

theorem rec_q {w : World} {S : Nat → Prop} {A : Option Addr} {rs : List (List UInt8)} (h : Rcs S w A rs) {i : Nat} (hi : i < rs.length) : ∃ b o A' c', A = some ⟨b, o, none⟩ ∧ S b ∧ b < w.heap.size ∧ w.cell? ⟨b, o + i, none⟩ = some (.slice A' rs[i].length c') ∧ rs[i].length ≤ c' ∧ Bts S w A' rs[i] := by
  obtain ⟨b, o, A', c', h1, h2, h3, h4, h5⟩ := h.at_ hi
  exact ⟨b, o, A', c', h1, h2, lt_of_cell h3, h3, h4, h5⟩

set_option maxRecDepth 10000 in
set_option maxHeartbeats 4000000 in
theorem rrewrite_any (w : World) (F S : Nat → Prop) (g : Nat) (vA vB vP : Value) (q : List (Wr × Value)) (j : Jn) (A : Option Addr) (n c : Nat) (recs : List (List UInt8)) (h : RNet F w g vA vB vP q j) (hr : Rcs S w A recs) (hS : ∀ k, S k → ¬ F k) (hn : n = recs.length)
    (hlen : recs.length ≤ 6000000000000) (hw : j.ws.length ≤ 3000000000000) :
    Calls Tryd.prog 64 #[.pointer (some ⟨g, 0, none⟩), .slice A n c] w (PostR F w g vA vB (rewriteJ j recs)) := by
  subst hn
  obtain ⟨AP, cP, hvP, _, _⟩ := own_slice h.p.row
  subst hvP
  have hql : q.length = j.ws.length := by rw [← h.pq]; simp
  have HQL := hid hql
  clear hql
  have hG := h.good
  have hcur := hG.cur
  have hgen := hG.gen
  have hmono := fun k => sizeF_mono recs k
  have hstep := fun k (hk : k < recs.length) => sizeF_take recs hk
  have HM := hid (And.intro hmono hstep)
  clear hmono hstep
  have c3 : w.cell? ⟨g, 3, none⟩ = some (.int .i64 (j.cur : Int)) := cell_of_heap h.head
  have c4 : w.cell? ⟨g, 4, none⟩ = some (.int .i64 (j.gen : Int)) := cell_of_heap h.head
  have zf : ∀ i, w.frozen? ⟨g, i, none⟩ = false := fun i => frozen_of_heap h.head
  go_enter Tryd.func64, Tryd.ntmps64
  go_wp2
  go_loopw [5, 6] (fun nv i wr => ∃ k : Nat, i = .int .i64 k ∧ k ≤ recs.length ∧ nv = .int .i64 (sizeF (recs.take k) : Nat) ∧ Hid (∀ r ∈ recs.take k, r.length ≤ 65536) ∧ w = wr) (fun _ i _ => recs.length - (intOf i).toNat)
  case atStart => exact ⟨0, rfl, Nat.zero_le _, rfl, hid (by simp), rfl⟩
  case round =>
    obtain ⟨k, rfl, hk, rfl, hsh, rfl⟩ := hrel
    have hle : sizeF (recs.take k) ≤ 65548 * k := by
      have h1 := sizeF_le (recs.take k) 65536 hsh.out
      have h2 : (recs.take k).length = k := by simp; omega
      rw [h2] at h1
      omega
    by_cases hlt : k < recs.length
    · obtain ⟨b, o, A', c', rfl, hSb, h0, h1, h2⟩ := hr.at_ hlt
      have i1 : (0 : Int) ≤ (k : Int) := by omega
      have i2 : (k : Int) < (recs.length : Int) := by omega
      have hst := HM.out.2 k hlt
      by_cases hlong : 65536 < recs[k].length
      · have hrw : rewriteJ j recs = (2, j) := by rw [rewriteJ, if_pos (long_mem hlt hlong)]
        have HRW := hid hrw
        have j1 : (recs[k].length : Int) > 65536 := by omega
        clear hrw hst hle hlong
        generalize recs[k] = rec at *
        go_wp2
        go_ret
        rw [HRW.out]
        exact ⟨rfl, F, _, q, h, fun _ hk => .inl hk, Keeps.refl _ _⟩
      · have hsh2 := hid (short_step hlt hsh.out hlong)
        have j1 : ¬ (recs[k].length : Int) > 65536 := by omega
        have b1 : IntKind.i64.wrap (((sizeF (recs.take k) : Nat) : Int) + 12) = ((sizeF (recs.take k) : Nat) : Int) + 12 := by rw [IntKind.wrap_i64]; omega
        have b2 : IntKind.i64.wrap (((sizeF (recs.take k) : Nat) : Int) + 12 + (recs[k].length : Int)) = ((sizeF (recs.take (k + 1)) : Nat) : Int) := by rw [IntKind.wrap_i64]; omega
        clear hst hle hlong
        generalize hdk : sizeF (recs.take (k + 1)) = dk1 at *
        have HDK := hid hdk
        clear hdk
        generalize sizeF (recs.take k) = dk at *
        generalize recs[k] = rec at *
        go_wp2
        exact ⟨⟨k + 1, by go_num, by omega, by rw [HDK.out], hsh2, by first | rfl | trivial⟩, by simp [intOf]; omega⟩
    · obtain rfl : k = recs.length := by omega
      have hns := all_short hsh.out
      have hrl : ∀ r ∈ recs, r.length ≤ 65536 := fun r hr => Nat.le_of_not_lt fun hl => hns ⟨r, hr, hl⟩
      rw [List.take_length] at hle ⊢
      by_cases hfull : 1048576 < 16 + sizeF recs
      · have hrw : rewriteJ j recs = (4, j) := by rw [rewriteJ, if_neg hns, if_pos hfull]
        have HRW := hid hrw
        have b1 : IntKind.i64.wrap (16 + ((sizeF recs : Nat) : Int)) = 16 + ((sizeF recs : Nat) : Int) := by rw [IntKind.wrap_i64]; omega
        have j1 : 16 + ((sizeF recs : Nat) : Int) > 1048576 := by omega
        clear hrw hfull hle hns
        generalize sizeF recs = B at *
        go_wp2
        go_ret
        rw [HRW.out]
        exact ⟨rfl, F, _, q, h, fun _ hk => .inl hk, Keeps.refl _ _⟩
      · have hrw := rewriteJ_ok j recs hns hfull
        have hgo := good_rewrite (recs := recs) hG hfull
        have hnum := sizeF_num recs
        obtain ⟨g', hg'⟩ : ∃ g', g' = (j.gen + 1) % 4294967296 := ⟨_, rfl⟩
        rw [← hg'] at hrw hgo
        obtain ⟨z2, j8⟩ : ∃ z2 : Int, IntKind.i64.wrap ((j.gen : Int) + 1) = z2 := ⟨_, rfl⟩
        have hz2 : z2 = (j.gen : Int) + 1 := by rw [← j8, IntKind.wrap_i64]; omega
        have j9 : z2 % 4294967296 = (g' : Int) := by omega
        have j10 : (0 : Int) ≤ z2 := by omega
        have hgl : g' < 4294967296 := by omega
        obtain ⟨cu, hcu⟩ : ∃ cu, cu = 1 - j.cur := ⟨_, rfl⟩
        rw [← hcu] at hrw hgo
        have bc : IntKind.i64.wrap (1 - (j.cur : Int)) = (cu : Int) := by rw [IntKind.wrap_i64]; omega
        have HRW := hid (And.intro hrw hgo)
        obtain ⟨B, hB⟩ : ∃ B, B = sizeF recs := ⟨_, rfl⟩
        rw [← hB] at hfull hle hnum
        rw [← hB]
        have HB := hid hB
        have b1 : IntKind.i64.wrap (16 + (B : Int)) = 16 + (B : Int) := by rw [IntKind.wrap_i64]; omega
        have j1 : ¬ 16 + (B : Int) > 1048576 := by omega
        clear hrw hgo hz2 hns hg' hcu hB
        go_upto_region 11 with fail
        obtain ⟨W1, hW1⟩ : ∃ W, W = w.setCell ⟨g, 4, none⟩ (.int .i64 (g' : Int)) := ⟨_, rfl⟩
        rw [← hW1]
        have k1 : Keeps (· ≠ g) w W1 := by rw [hW1]; exact (Keeps.refl _ _).setCell (fun _ h => h rfl) _
        have hraw := h.raw.sets (j' := { j with gen := g' }) k1 (by rw [hW1, heap_setCell h.head]; rfl) rfl rfl rfl
        clear hW1 j8 j9 j10
        have hgF := h.fg
        have hS1 : ∀ k, S k → k ≠ g := fun k hk e => hS k hk (by rw [e]; exact hgF)
        have hr1 := hr.keep (k1.mono fun k _ hk => hS1 k hk)
        have d4 : W1.cell? ⟨g, 4, none⟩ = some (.int .i64 (g' : Int)) := cell_of_heap hraw.head
        have hgb : g < W1.heap.size := lt_of_heap hraw.head
        have hhd := head_any W1 g' B hgl (by omega)
        go_wp2_with fail
        refine hhd.mono ?_
        rintro e w2 ⟨vh, rfl, hvh, k2⟩
        clear hhd
        go_wp2
        go_loopw [7, 8] (fun bq i wr => ∃ k : Nat, i = .int .i64 k ∧ k ≤ recs.length ∧ Hid (Old W1 wr) ∧ Hid (OwnB (fun k => W1.heap.size ≤ k) wr bq (headB g' B ++ framesB g' 0 (recs.take k)))) (fun _ i _ => recs.length - (intOf i).toNat)
        case atStart => exact ⟨0, rfl, Nat.zero_le _, hid k2, hid (by simpa [framesB] using hvh)⟩
        case round =>
          clear hvh k2
          obtain ⟨k, rfl, hk, hold, hown⟩ := hrel
          replace hold := hold.out
          have hwr := hraw.keep (hold.old _)
          have e4 : wr.cell? ⟨g, 4, none⟩ = some (.int .i64 (g' : Int)) := cell_of_heap hwr.head
          have hfl : (headB g' B ++ framesB g' 0 (recs.take k)).length = 16 + sizeF (recs.take k) := by rw [List.length_append, headB_length, framesB_length]
          have HFL := hid hfl
          clear hfl
          by_cases hlt : k < recs.length
          · obtain ⟨b, o, A', c', rfl, hSb, hbl, h0, h1, h2⟩ := rec_q hr1 hlt
            have hbw := hS1 b hSb
            replace h0 := (hold.cell (lt_of_cell h0) trivial).trans h0
            replace h2 := h2.keep (hold.old _)
            have hft := framesB_take g' recs hlt
            have e1 := HM.out.2 k hlt
            have e2 := HM.out.1 (k + 1)
            rw [← HB.out] at e2
            have hrl' := hrl recs[k] (List.getElem_mem hlt)
            have HE := hid (And.intro hft (And.intro e1 e2))
            clear hft e1 e2
            obtain ⟨fb, hfb⟩ : ∃ fb, fb = headB g' B ++ framesB g' 0 (recs.take k) := ⟨_, rfl⟩
            rw [← hfb] at hown HFL
            obtain ⟨A9, c9, rfl, _, _⟩ := hown.out.slice
            have HFB := hid hfb
            clear hfb
            have i1 : (0 : Int) ≤ (k : Int) := by omega
            have i2 : (k : Int) < (recs.length : Int) := by omega
            have hfr := rframe_any wr.drew S g' k A' recs[k].length c' recs[k] hgl (by omega) (h2.keep ((Keeps.refl _ _).drew)) rfl hrl'
            obtain ⟨fr, hfr2⟩ : ∃ fr, fr = frameB g' k recs[k] := ⟨_, rfl⟩
            rw [← hfr2] at hfr HE
            have hfrl : fr.length = 12 + recs[k].length := by rw [hfr2]; exact frameB_length ..
            clear hfr2
            generalize recs[k] = rec at *
            have hFRL := hid hfrl
            clear hfrl
            have hso := hold.size
            go_upto_region 15 with fail
            refine wp_region_tree (fun w' => w'.cell? ⟨g, 4, none⟩ = some (.int .i64 (g' : Int)) ∧ w'.cell? ⟨b, o + k, none⟩ = some (.slice A' rec.length c')) 13
              (.take 0 (.take 1 (.take 2 (.take 3 (.take 4 (.take 5 (.take 6 (.take 7 (.take 8 (.take 9 (.one 10 (.one 11 (.take 12 .tail))))))))))))) (by kernel_rfl) (by kernel_rfl) ⟨e4, h0⟩ ?_
            iterate 10 (refine pt_take (v := ?_) (by rfl) (by first | rfl | kernel_rfl) (fun w' hS => ?_) ?_; rotate_left 1; (obtain ⟨s0, s1⟩ := hS; go_simp <;> (try with_reducible rfl)); (simp only [Act.put, List.setIfInBounds_toArray, List.set_cons_zero, List.set_cons_succ]))
            refine pt_one (by rfl) (loudly_of (by first | rfl | kernel_rfl) (fun K hK => ?_))
            go_wp2_with (go_at_call 79; refine hfr.mono ?_)
            rintro e w4 ⟨v4, rfl, hv4, k4⟩
            replace k4 : Old wr w4 := k4.ofDrew
            clear hfr
            obtain ⟨A4, c4, rfl, _, _⟩ := hv4.slice
            have hown4 := hown.out.keep (k4.old _)
            have hrow4 := hown4.row
            have hs4 := k4.size
            refine hK _ _ ⟨(k4.cell (lt_of_cell e4) trivial).trans e4, (k4.cell (lt_of_cell h0) trivial).trans h0⟩ ?_
            clear hK K
            refine pt_one (by rfl) (loudly_of (by first | rfl | kernel_rfl) (fun K hK => ?_))
            refine wp_append_ex w4 _ _ 22 5 (by rfl) Tryd.underlying22 info5 (by rfl) (by omega) (by rfl) hrow4 A4 fr.length c4 (fr.map bv) (by rfl) (by simp) (fun h => (by obtain ⟨ad, e, _, h⟩ := hv4.bts.src (by simpa using h); exact ⟨ad, e, h⟩)) (bv_one fr) (by have := hFRL.out; have := HFL.out; have := HE.out.2; omega) (by have := hFRL.out; have := HFL.out; have := HE.out.2; unfold maxLen; omega) ?_
            intro v5 w5 hown5 hgrow5 hat5
            simp only [Act.put, List.setIfInBounds_toArray, List.set_cons_zero, List.set_cons_succ]
            have K45 : Keeps (fun k => (Value.slice A9 fb.length c9).ownBlock ≠ some k) w4 w5 := (Keeps.refl _ w4).grown hgrow5 (fun k _ h hn => hn h)
            have hob : ∀ k, k < W1.heap.size → (Value.slice A9 fb.length c9).ownBlock ≠ some k := fun k hk e => by have h1 : W1.heap.size ≤ k := hown4.foot k e; omega
            refine hK _ _ ⟨(K45.cell (p := ⟨g, 4, none⟩) (by show g < _; omega) (hob g hgb)).trans ((k4.cell (lt_of_cell e4) trivial).trans e4), (K45.cell (p := ⟨b, o + k, none⟩) (by show b < _; omega) (hob b hbl)).trans ((k4.cell (lt_of_cell h0) trivial).trans h0)⟩ ?_
            clear hK K
            (refine pt_take (v := ?_) (by rfl) (by first | rfl | kernel_rfl) (fun w' hS => ?_) ?_; rotate_left 1; (obtain ⟨s0, s1⟩ := hS; go_simp <;> (try with_reducible rfl)); (simp only [Act.put, List.setIfInBounds_toArray, List.set_cons_zero, List.set_cons_succ]))
            refine pt_tail (by rfl) ?_
            go_wp2
            refine NoPanic.normal ?_
            go_wp2
            refine ⟨⟨k + 1, by go_num, by omega, hid ((hold.trans' k4).trans K45 fun k hk _ => hob k hk), hid ?_⟩, by simp [intOf]; omega⟩
            rw [HE.out.1, ← List.append_assoc, ← HFB.out]
            refine ⟨by simpa using hown5, fun k hk => ?_, by have := hFRL.out; have := HFL.out; have := HE.out.2; simp; omega⟩
            rcases hat5 with e | e
            · rw [e] at hk; exact hown4.foot k hk
            · rw [e] at hk; injection hk with hk; omega
          · obtain rfl : k = recs.length := by omega
            rw [List.take_length] at hown HFL
            rw [← HB.out] at HFL
            have hbj : beginJ { j with cur := cu } g' recs = { j with cur := cu, ws := j.ws ++ [⟨cu, 0, headB g' B ++ framesB g' 0 recs⟩], gen := g', nr := recs.length, end_ := (headB g' B ++ framesB g' 0 recs).length } := by rw [HFL.out, HB.out]; rfl
            have HBJ := hid hbj
            clear hbj
            generalize headB g' B ++ framesB g' 0 recs = fb at *
            obtain ⟨A9, c9, rfl, _, _⟩ := hown.out.slice
            have hh := hwr.head
            have d3 : wr.cell? ⟨g, 3, none⟩ = some (.int .i64 (j.cur : Int)) := cell_of_heap hh
            have d5 : wr.cell? ⟨g, 5, none⟩ = some (.int .i64 (j.nr : Int)) := cell_of_heap hh
            have d6 : wr.cell? ⟨g, 6, none⟩ = some (.int .i64 (j.end_ : Int)) := cell_of_heap hh
            have df : ∀ i, wr.frozen? ⟨g, i, none⟩ = false := fun i => frozen_of_heap hh
            go_upto_region 19 with fail
            obtain ⟨W5, hW5⟩ : ∃ W, W = ((wr.setCell ⟨g, 3, none⟩ (.int .i64 (cu : Int))).setCell ⟨g, 5, none⟩ (.int .i64 (recs.length : Int))).setCell ⟨g, 6, none⟩ (.int .i64 (fb.length : Int)) := ⟨_, rfl⟩
            rw [← hW5]
            have k5 : Keeps (· ≠ g) wr W5 := by rw [hW5]; exact (((Keeps.refl _ _).setCell (fun _ h => h rfl) _).setCell (fun _ h => h rfl) _).setCell (fun _ h => h rfl) _
            have h5 := hwr.sets (j' := { j with cur := cu, gen := g', nr := recs.length, end_ := fb.length }) k5 (by
              rw [hW5, heap_setCell (heap_setCell (heap_setCell hh _) _)]
              rfl) rfl rfl rfl
            clear hW5 d3 d5 d6 df
            have hown5 := hown.out.keep (k5.mono fun k _ (hk : W1.heap.size ≤ k) => by show k ≠ g; omega)
            have d2 : W5.cell? ⟨g, 2, none⟩ = some (.slice AP q.length cP) := cell_of_heap h5.head
            have d3 : W5.cell? ⟨g, 3, none⟩ = some (.int .i64 (cu : Int)) := cell_of_heap h5.head
            refine wp_region_planF (fun w' => w'.cell? ⟨g, 2, none⟩ = some (.slice AP q.length cP) ∧ w'.cell? ⟨g, 3, none⟩ = some (.int .i64 (cu : Int))) 13
              ((List.range 11).map (fun i => (i, none)) ++ [(11, some 11), (12, some 12)]) (by kernel_rfl) (by kernel_rfl) ⟨d2, d3⟩ ?_
            iterate 11 (refine planF_take (v := ?_) (by rfl) (by rfl) (fun w' hS => ?_) ?_; rotate_left 1; (obtain ⟨s0, s1⟩ := hS; go_simp <;> (try with_reducible rfl)); (simp only [Act.put, List.setIfInBounds_toArray, List.set_cons_zero, List.set_cons_succ]))
            refine planF_loud (by rfl) (loudly_of (by rfl) (fun K hK => ?_))
            go_wp2
            obtain ⟨w3, hw3⟩ : ∃ W, W = (W5.alloc (.cells #[.int .i64 (cu : Int), .int .i64 0, .slice A9 fb.length c9] 93)).drew := ⟨_, rfl⟩
            rw [← hw3]
            have K23 : Old W5 w3 := by rw [hw3]; exact ((Keeps.refl _ _).alloc _).drew
            have hb3 : w3.heap[W5.heap.size]? = some (.cells #[.int .i64 (cu : Int), .int .i64 0, .slice A9 fb.length c9] 93 (0, 0)) := by rw [hw3]; exact heap_alloc_new _ _
            clear hw3
            refine hK _ _ ⟨(K23.cell (lt_of_cell d2) trivial).trans d2, (K23.cell (lt_of_cell d3) trivial).trans d3⟩ ?_
            clear hK K
            have h3 := h5.keep (K23.old _)
            have hrow3 := h3.p.row
            refine planF_loud (by rfl) (loudly_of (by rfl) (fun K hK => ?_))
            refine wp_append_ex w3 _ _ 89 93 (by rfl) Tryd.underlying89 info93 (by rfl) (by omega) (by rfl) hrow3 (some ⟨W5.heap.size, 0, none⟩) 1 1 [.int .i64 (cu : Int), .int .i64 0, .slice A9 fb.length c9] (by rfl) (by rfl) (fun _ => ⟨_, rfl, World.news_of_block hb3⟩) (three_one rfl rfl rfl) (by have := HQL.out; omega) (by have := HQL.out; unfold maxLen; omega) ?_
            intro v2 w4 hown4 hgrow4 hat4
            simp only [Act.put, List.setIfInBounds_toArray, List.set_cons_zero, List.set_cons_succ]
            have K34 : Keeps (fun k => (Value.slice AP q.length cP).ownBlock ≠ some k) w3 w4 := (Keeps.refl _ w3).grown hgrow4 (fun k _ h hn => hn h)
            have hgP : (Value.slice AP q.length cP).ownBlock ≠ some g := own_ne_heap hrow3 h3.head (by decide)
            have hh4 := K34.heap h3.head hgP
            have z2 : w4.cell? ⟨g, 2, none⟩ = some (.slice AP q.length cP) := cell_of_heap hh4
            have z3 : w4.cell? ⟨g, 3, none⟩ = some (.int .i64 (cu : Int)) := cell_of_heap hh4
            have zf : ∀ i, w4.frozen? ⟨g, i, none⟩ = false := fun i => frozen_of_heap hh4
            obtain ⟨A4, c4', hv2, _, _⟩ := own_slice hown4
            subst hv2
            refine hK _ _ ⟨z2, z3⟩ ?_
            clear hK K
            have hs0 := k1.size
            have hs1 := hold.size
            have hs2 := k5.size
            have hs23 := K23.size
            have L := h3.push (x := (⟨cu, 0, fb⟩, .slice A9 fb.length c9)) (hown5.keep (K23.old _)) K34 hown4
            have KK : Keeps (fun k => ¬ F k) w (w4.setCell ⟨g, 2, none⟩ (.slice A4 (q.length + 1) c4')) :=
              ((((((k1.mono fun k _ hk e => hk (by rw [e]; exact hgF)).trans' (hold.old _)).trans k5 fun k _ hk e => hk (by rw [e]; exact hgF)).trans' (K23.old _)).trans (K34.mono fun k _ hk e => hk (h.p.foot k e)) fun _ _ hk => hk).setCell (fun _ hk => hk hgF) _)
            have LL := hid (And.intro L KK)
            clear L KK hown4 hgrow4 hrow3 K34 h3 d2 d3 hown5 h5 k5 hwr hh
            refine planF_tail (by rfl) ?_
            go_wp2
            refine NoPanic.normal ?_
            go_wp2
            go_ret
            rw [HRW.out.1, HBJ.out]
            have hgo := HRW.out.2
            rw [HBJ.out] at hgo
            refine ⟨rfl, _, _, _, LL.out.1.net hgo, fun k hk => ?_, LL.out.2⟩
            rcases hk with hk | hk | hk
            · exact .inl hk
            · have := hk.1; right; omega
            · rcases hat4 with e | e
              · rw [e] at hk; exact .inl (h.p.foot k hk)
              · rw [e] at hk; injection hk with hk; right; omega
end Go.Proofs.YtdpaaoeipconcaaDoor
