/- weftref12.Log.Append: a record more is written, or the error. Conditions: the journal lies, the record can be read, not too many writes are waiting. -/
import Derived.Test.YtdpaaoeipconcaaDoorJAppend
namespace Go.Proofs.YtdpaaoeipconcaaDoor
open Go.RowKit

theorem info93 : (Tryd.prog.info? 93).map (fun i => (i.zero, i.size, i.bytes)) = some (some (.agg #[.int .i64 0, .int .i64 0, .slice none 0 0]), 3, 40) := by kernel_rfl

/-- Behind a change of the document's journal. -/
def PostR (F : Nat → Prop) (w : World) (g : Nat) (vA vB : Value) (r : Nat × Jn) (e : Ending) (w' : World) : Prop :=
  e = .returned (.int .i64 (r.1 : Int)) ∧ ∃ F' vP' q', RNet F' w' g vA vB vP' q' r.2 ∧ (∀ k, F' k → F k ∨ w.heap.size ≤ k) ∧ Keeps (fun k => ¬ F k) w w'

/-- A write more: what the journal's cells hold then. -/
theorem rnet_push {F G : Nat → Prop} {w w4 : World} {g : Nat} {vA vB vP v2 : Value} {q : List (Wr × Value)} {j j' : Jn} {x : Wr × Value} (h : RNet F w g vA vB vP q j) (hv : OwnB G w x.2 x.1.bytes)
    (K : Keeps (fun k => vP.ownBlock ≠ some k) w w4) (hown : w4.ownsRow 0 93 3 v2 (q.length + 1) (row3 q ++ row3 [x])) (hA : j'.dA = j.dA) (hB : j'.dB = j.dB) (hc : j'.cur = j.cur) (hg : j'.gen = j.gen) (hws : j'.ws = j.ws ++ [x.1]) (hgood : Good j') :
    RNet (fun k => F k ∨ (G k ∧ k < w.heap.size) ∨ v2.ownBlock = some k) (((w4.setCell ⟨g, 2, none⟩ v2).setCell ⟨g, 6, none⟩ (.int .i64 (j'.end_ : Int))).setCell ⟨g, 5, none⟩ (.int .i64 (j'.nr : Int))) g vA vB v2 (q ++ [x]) j' := by
  have hgP : vP.ownBlock ≠ some g := own_ne_heap h.p.row h.head (by decide)
  have hh := K.heap h.head hgP
  have KS : Keeps (· ≠ g) w4 (((w4.setCell ⟨g, 2, none⟩ v2).setCell ⟨g, 6, none⟩ (.int .i64 (j'.end_ : Int))).setCell ⟨g, 5, none⟩ (.int .i64 (j'.nr : Int))) := (((Keeps.refl _ _).setCell (fun _ h => h rfl) _).setCell (fun _ h => h rfl) _).setCell (fun _ h => h rfl) _
  have KB : Keeps (fun k => k ≠ g ∧ vP.ownBlock ≠ some k) w (((w4.setCell ⟨g, 2, none⟩ v2).setCell ⟨g, 6, none⟩ (.int .i64 (j'.end_ : Int))).setCell ⟨g, 5, none⟩ (.int .i64 (j'.nr : Int))) := (K.mono fun _ _ h => h.2).trans KS fun _ _ h => h.1
  have nb : ∀ {v : Value} {n : Nat} {xs : List Value}, w.ownsRow 0 5 1 v n xs → ∀ k, v.ownBlock = some k → k ≠ g ∧ vP.ownBlock ≠ some k := fun hx k hk =>
    ⟨fun e => own_ne_heap hx h.head (by decide) (by rw [hk, e]), own_ne hx h.p.row (by decide) hk⟩
  have hp := h.p.push (x := x) (by decide) K hv hown
  have nb4 : ∀ {v : Value} {n : Nat} {xs : List Value}, w4.ownsRow 0 5 1 v n xs → ∀ k, v.ownBlock = some k → k ≠ g := fun hx k hk e => own_ne_heap hx hh (by decide) (by rw [hk, e])
  have hp2 := hp.keepS KS (fun k hk e => own_ne_heap hown hh (by decide) (by rw [hk, e])) (fun y hy => nb4 (hp.own y hy).row)
  refine ⟨?_, ⟨by rw [hA]; exact own_keeps h.a.row KB (nb h.a.row), fun k hk => .inl (h.a.foot k hk), by rw [hA]; exact h.a.len⟩, ⟨by rw [hB]; exact own_keeps h.b.row KB (nb h.b.row), fun k hk => .inl (h.b.foot k hk), by rw [hB]; exact h.b.len⟩,
    ⟨hp2.row, fun y hy => ?_, fun k hk => .inr (.inr hk)⟩, by rw [List.map_append, h.pq, hws]; rfl, .inl h.fg, fun k hk => ?_, hgood⟩
  · rw [heap_setCell (heap_setCell (heap_setCell hh _) _), hc, hg]
    rfl
  · have ho := hp2.own y hy
    refine ⟨ho.row, fun k hk => ?_, ho.len⟩
    rcases ho.foot k hk with h1 | h1 | h1
    · exact .inl h1
    · rcases List.mem_append.1 hy with hy | hy
      · exact .inl ((h.p.own y hy).foot k hk)
      · obtain rfl : y = x := by simpa using hy
        exact .inr (.inl ⟨h1, own_lt hv.row hk⟩)
    · exact .inr (.inr h1)
  · rcases hk with hk | hk | hk
    · exact Nat.lt_of_lt_of_le (h.lt k hk) KB.size
    · exact Nat.lt_of_lt_of_le hk.2 KB.size
    · exact Nat.lt_of_lt_of_le (own_lt hown hk) KS.size

set_option maxHeartbeats 4000000 in
theorem rappend_any (w : World) (F S : Nat → Prop) (g : Nat) (vA vB vP : Value) (q : List (Wr × Value)) (j : Jn) (A : Option Addr) (n c : Nat) (rec : List UInt8) (h : RNet F w g vA vB vP q j) (hr : Bts S w A rec) (hn : n = rec.length)
    (hw : j.ws.length ≤ 3000000000000) :
    Calls Tryd.prog 63 #[.pointer (some ⟨g, 0, none⟩), .slice A n c] w (PostR F w g vA vB (appendJ j rec)) := by
  subst hn
  obtain ⟨AP, cP, hvP, _, _⟩ := own_slice h.p.row
  subst hvP
  have hql : q.length = j.ws.length := by rw [← h.pq]; simp
  have HQL := hid hql
  clear hql
  have hrl := hr.1
  have hG := h.good
  have c2 : w.cell? ⟨g, 2, none⟩ = some (.slice AP q.length cP) := cell_of_heap h.head
  have c3 : w.cell? ⟨g, 3, none⟩ = some (.int .i64 (j.cur : Int)) := cell_of_heap h.head
  have c4 : w.cell? ⟨g, 4, none⟩ = some (.int .i64 (j.gen : Int)) := cell_of_heap h.head
  have c5 : w.cell? ⟨g, 5, none⟩ = some (.int .i64 (j.nr : Int)) := cell_of_heap h.head
  have c6 : w.cell? ⟨g, 6, none⟩ = some (.int .i64 (j.end_ : Int)) := cell_of_heap h.head
  have hend := hG.end_
  by_cases hlong : 65536 < rec.length
  · have i1 : (rec.length : Int) > 65536 := by omega
    have e : appendJ j rec = (2, j) := by rw [appendJ, if_pos hlong]
    rw [e]
    go_enter Tryd.func63, Tryd.ntmps63
    go_wp2
    go_ret
    exact ⟨rfl, F, _, q, h, fun _ hk => .inl hk, Keeps.refl _ _⟩
  · have i1 : ¬ (rec.length : Int) > 65536 := by omega
    have b1 : IntKind.i64.wrap ((j.end_ : Int) + 12) = (j.end_ : Int) + 12 := by rw [IntKind.wrap_i64]; omega
    have b2 : IntKind.i64.wrap ((j.end_ : Int) + 12 + (rec.length : Int)) = (j.end_ : Int) + 12 + (rec.length : Int) := by rw [IntKind.wrap_i64]; omega
    by_cases hfull : 1048576 < j.end_ + 12 + rec.length
    · have i2 : (j.end_ : Int) + 12 + (rec.length : Int) > 1048576 := by omega
      have e : appendJ j rec = (4, j) := by rw [appendJ, if_neg hlong, if_pos hfull]
      rw [e]
      go_enter Tryd.func63, Tryd.ntmps63
      go_wp2
      go_ret
      exact ⟨rfl, F, _, q, h, fun _ hk => .inl hk, Keeps.refl _ _⟩
    · have i2 : ¬ (j.end_ : Int) + 12 + (rec.length : Int) > 1048576 := by omega
      have e : appendJ j rec = (0, { j with ws := j.ws ++ [⟨j.cur, j.end_, frameB j.gen j.nr rec⟩], end_ := j.end_ + 12 + rec.length, nr := j.nr + 1 }) := by rw [appendJ, if_neg hlong, if_neg hfull]
      rw [e]
      have HGA := hid (good_append hG hlong hfull)
      obtain ⟨fb, hfb⟩ : ∃ fb, fb = frameB j.gen j.nr rec := ⟨_, rfl⟩
      have hfl : fb.length = 12 + rec.length := by rw [hfb]; exact frameB_length ..
      have HFL := hid hfl
      have hnr := hG.nr
      have hf := rframe_any w.drew S j.gen j.nr A rec.length c rec hG.gen (by omega) (hr.keep ((Keeps.refl _ _).drew)) rfl (by omega)
      rw [← hfb] at hf HGA ⊢
      clear hfb hfl
      clear e hG
      go_enter Tryd.func63, Tryd.ntmps63
      go_wp2
      refine wp_region_planF (fun w' => w'.cell? ⟨g, 2, none⟩ = some (.slice AP q.length cP) ∧ w'.cell? ⟨g, 3, none⟩ = some (.int .i64 (j.cur : Int)) ∧ w'.cell? ⟨g, 6, none⟩ = some (.int .i64 (j.end_ : Int)) ∧ w'.cell? ⟨g, 4, none⟩ = some (.int .i64 (j.gen : Int)) ∧ w'.cell? ⟨g, 5, none⟩ = some (.int .i64 (j.nr : Int))) 26
        ((List.range 22).map (fun i => (i, none)) ++ [(22, some 22), (23, none), (24, some 24), (25, some 25)]) (by kernel_rfl) (by kernel_rfl) ⟨c2, c3, c6, c4, c5⟩ ?_
      iterate 22 (refine planF_take (v := ?_) (by rfl) (by rfl) (fun w' hS => ?_) ?_; rotate_left 1; (obtain ⟨s0, s1, s2, s3, s4⟩ := hS; go_simp <;> (try with_reducible rfl)); (simp only [Act.put, List.setIfInBounds_toArray, List.set_cons_zero, List.set_cons_succ]))
      refine planF_loud (by rfl) (loudly_of (by rfl) (fun K hK => ?_))
      go_wp2_with (go_at_call 79; refine hf.mono ?_)
      rintro e w2 ⟨v, rfl, hv, k2⟩
      replace k2 := k2.ofDrew
      obtain ⟨Av, cv, rfl, _, _⟩ := hv.slice
      have h2 := h.keep (k2.old _)
      have d2 : w2.cell? ⟨g, 2, none⟩ = some (.slice AP q.length cP) := cell_of_heap h2.head
      have d3 : w2.cell? ⟨g, 3, none⟩ = some (.int .i64 (j.cur : Int)) := cell_of_heap h2.head
      have d4 : w2.cell? ⟨g, 4, none⟩ = some (.int .i64 (j.gen : Int)) := cell_of_heap h2.head
      have d5 : w2.cell? ⟨g, 5, none⟩ = some (.int .i64 (j.nr : Int)) := cell_of_heap h2.head
      have d6 : w2.cell? ⟨g, 6, none⟩ = some (.int .i64 (j.end_ : Int)) := cell_of_heap h2.head
      clear c2 c3 c4 c5 c6
      refine hK _ _ ⟨d2, d3, d6, d4, d5⟩ ?_
      clear hK K hf
      (refine planF_take (v := ?_) (by rfl) (by rfl) (fun w' hS => ?_) ?_; rotate_left 1; (obtain ⟨s0, s1, s2, s3, s4⟩ := hS; go_simp <;> (try with_reducible rfl)); (simp only [Act.put, List.setIfInBounds_toArray, List.set_cons_zero, List.set_cons_succ]))
      refine planF_loud (by rfl) (loudly_of (by rfl) (fun K hK => ?_))
      go_wp2
      obtain ⟨w3, hw3⟩ : ∃ W, W = w2.alloc (.cells #[.int .i64 (j.cur : Int), .int .i64 (j.end_ : Int), .slice Av fb.length cv] 93) := ⟨_, rfl⟩
      rw [← hw3]
      have K23 : Old w2 w3 := by rw [hw3]; exact (Keeps.refl _ _).alloc _
      have hb3 : w3.heap[w2.heap.size]? = some (.cells #[.int .i64 (j.cur : Int), .int .i64 (j.end_ : Int), .slice Av fb.length cv] 93 (0, 0)) := by rw [hw3]; exact heap_alloc_new _ _
      clear hw3
      refine hK _ _ ⟨(K23.cell (lt_of_cell d2) trivial).trans d2, (K23.cell (lt_of_cell d3) trivial).trans d3, (K23.cell (lt_of_cell d6) trivial).trans d6, (K23.cell (lt_of_cell d4) trivial).trans d4, (K23.cell (lt_of_cell d5) trivial).trans d5⟩ ?_
      clear hK K
      have h3 := h2.keep (K23.old _)
      have hrow3 := h3.p.row
      refine planF_loud (by rfl) (loudly_of (by rfl) (fun K hK => ?_))
      refine wp_append_ex w3 _ _ 89 93 (by rfl) Tryd.underlying89 info93 (by rfl) (by omega) (by rfl) hrow3 (some ⟨w2.heap.size, 0, none⟩) 1 1 [.int .i64 (j.cur : Int), .int .i64 (j.end_ : Int), .slice Av fb.length cv] (by rfl) (by rfl) (fun _ => ⟨_, rfl, World.news_of_block hb3⟩) (three_one rfl rfl rfl) (by have := HQL.out; omega) (by have := HQL.out; unfold maxLen; omega) ?_
      intro v2 w4 hown4 hgrow4 hat4
      simp only [Act.put, List.setIfInBounds_toArray, List.set_cons_zero, List.set_cons_succ]
      have K34 : Keeps (fun k => (Value.slice AP q.length cP).ownBlock ≠ some k) w3 w4 := (Keeps.refl _ w3).grown hgrow4 (fun k _ h hn => hn h)
      have hgP : (Value.slice AP q.length cP).ownBlock ≠ some g := own_ne_heap hrow3 h3.head (by decide)
      have hh4 := K34.heap h3.head hgP
      have z2 : w4.cell? ⟨g, 2, none⟩ = some (.slice AP q.length cP) := cell_of_heap hh4
      have z3 : w4.cell? ⟨g, 3, none⟩ = some (.int .i64 (j.cur : Int)) := cell_of_heap hh4
      have z4 : w4.cell? ⟨g, 4, none⟩ = some (.int .i64 (j.gen : Int)) := cell_of_heap hh4
      have z5 : w4.cell? ⟨g, 5, none⟩ = some (.int .i64 (j.nr : Int)) := cell_of_heap hh4
      have z6 : w4.cell? ⟨g, 6, none⟩ = some (.int .i64 (j.end_ : Int)) := cell_of_heap hh4
      have zf : ∀ i, w4.frozen? ⟨g, i, none⟩ = false := fun i => frozen_of_heap hh4
      obtain ⟨A4, c4', hv2, _, _⟩ := own_slice hown4
      subst hv2
      refine hK _ _ ⟨z2, z3, z6, z4, z5⟩ ?_
      clear hK K
      have hs2 := k2.size
      have hs23 := K23.size
      have L := rnet_push (x := (⟨j.cur, j.end_, fb⟩, .slice Av fb.length cv)) (j' := { j with ws := j.ws ++ [⟨j.cur, j.end_, fb⟩], end_ := j.end_ + 12 + rec.length, nr := j.nr + 1 }) h3 (hv.keep (K23.old _)) K34 hown4 rfl rfl rfl rfl rfl HGA.out
      change RNet _ (((w4.setCell ⟨g, 2, none⟩ (.slice A4 (q.length + 1) c4')).setCell ⟨g, 6, none⟩ (.int .i64 ((j.end_ + 12 + rec.length : Nat) : Int))).setCell ⟨g, 5, none⟩ (.int .i64 ((j.nr + 1 : Nat) : Int))) _ _ _ _ _ _ at L
      have ee : ((j.end_ + 12 + rec.length : Nat) : Int) = (j.end_ : Int) + 12 + (rec.length : Int) := by omega
      rw [ee, show ((j.nr + 1 : Nat) : Int) = (j.nr : Int) + 1 by omega] at L
      have b4 : IntKind.i64.wrap ((j.nr : Int) + 1) = (j.nr : Int) + 1 := by rw [IntKind.wrap_i64]; omega
      have KK : Keeps (fun k => ¬ F k) w (((w4.setCell ⟨g, 2, none⟩ (.slice A4 (q.length + 1) c4')).setCell ⟨g, 6, none⟩ (.int .i64 ((j.end_ : Int) + 12 + (rec.length : Int)))).setCell ⟨g, 5, none⟩ (.int .i64 ((j.nr : Int) + 1))) :=
        (((((k2.trans' K23).old _).trans (K34.mono fun k _ hk e => hk (h.p.foot k e)) fun _ _ hk => hk).setCell (fun _ hk => hk h.fg) _).setCell (fun _ hk => hk h.fg) _).setCell (fun _ hk => hk h.fg) _
      have LL := hid (And.intro L KK)
      clear L KK ee hown4 hgrow4 hrow3 K34 h2 h3 d2 d3 d4 d5 d6 HGA
      refine planF_tail (by rfl) ?_
      go_wp2
      refine NoPanic.normal ?_
      go_wp2
      go_ret
      refine ⟨rfl, _, _, _, LL.out.1, fun k hk => ?_, LL.out.2⟩
      rcases hk with hk | hk | hk
      · exact .inl hk
      · right; have := hk.1; simp at this; exact this
      · rcases hat4 with e | e
        · rw [e] at hk; exact .inl (h.p.foot k hk)
        · rw [e] at hk; injection hk with hk; right; omega
end Go.Proofs.YtdpaaoeipconcaaDoor
