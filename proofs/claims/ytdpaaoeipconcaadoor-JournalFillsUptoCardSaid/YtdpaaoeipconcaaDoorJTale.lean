/- weftlaw12.Tale in memory: what it holds; clone, note, at. Conditions: the tale lies, the bytes can be read. -/
import Derived.Test.YtdpaaoeipconcaaDoorJUtil2
import Derived.Test.YtdpaaoeipconcaaDoorJRecP
import Derived.Test.YtdpaaoeipconcaaDoorJLSync
namespace Go.Proofs.YtdpaaoeipconcaaDoor
open Go.RowKit

theorem info35 : (Tryd.prog.info? 35).map (fun i => (i.zero, i.size, i.bytes)) = some (some (.slice none 0 0), 1, 24) := by kernel_rfl
theorem info62 : (Tryd.prog.info? 62).map (fun i => (i.zero, i.size, i.bytes)) = some (some (.agg #[.int .i64 0, .int .i64 0, .int .i64 0]), 3, 24) := by kernel_rfl

set_option maxHeartbeats 1000000 in
theorem clone44_any (w : World) (S : Nat → Prop) (A : Option Addr) (n c : Nat) (bs : List UInt8) (ha : Bts S w A bs) (hn : n = bs.length) (hl : bs.length ≤ 140737488355327) :
    Calls Tryd.prog 44 #[.slice A n c] w (PostOwn w bs) := by
  subst hn
  go_enter Tryd.func44, Tryd.ntmps44
  go_wp2
  go_loopw [3, 4] (fun v i wr => ∃ k : Nat, i = .int .i64 k ∧ k ≤ bs.length ∧ Hid (OwnB (fun k => w.heap.size ≤ k) wr v (bs.take k)) ∧ Hid (Old w wr)) (fun _ i _ => bs.length - (intOf i).toNat)
  case atStart => exact ⟨0, rfl, Nat.zero_le _, hid (OwnB.nil _ _), hid (Keeps.refl _ _)⟩
  case round =>
    obtain ⟨k, rfl, hk, hO, hold⟩ := hrel
    by_cases hlt : k < bs.length
    · obtain ⟨b, o, rfl, hSb, h0⟩ := (ha.keep (hold.out.old _)).at_ hlt
      have i1 : (0 : Int) ≤ (k : Int) := by omega
      have i2 : (k : Int) < (bs.length : Int) := by omega
      have hs : (bs.take k).length = k := by rw [List.length_take]; omega
      have HT := hid (show bs.take (k + 1) = bs.take k ++ [bs[k]] from List.take_succ_eq_append_getElem hlt)
      have HL := hid hs
      clear hs
      have hso := hold.out.size
      have kw : Old wr (wr.alloc (.cells #[bv bs[k]] 5)) := (Keeps.refl _ _).alloc _
      have hbb : (wr.alloc (.cells #[bv bs[k]] 5)).heap[wr.heap.size]? = some (.cells #[bv bs[k]] 5 (0, 0)) := heap_alloc_new _ _
      have hB : Bts (fun k => k = wr.heap.size) (wr.alloc (.cells #[bv bs[k]] 5)) (some ⟨wr.heap.size, 0, none⟩) [bs[k]] := Bts.of_block (t := 5) (by simpa using hbb) (by simp)
      have HB := hid hB
      clear hB hbb
      generalize bs[k] = x at *
      go_wp2_with (at_builtin; refine wpList_app5 (by rfl) _ _ (by rfl) (by rfl) (hO.out.keep (kw.old _)) (some ⟨wr.heap.size, 0, none⟩) 1 1 (by rfl) (by rfl) HB.out (by have := HL.out; simp only [List.length_singleton]; omega) ?_; intro v2 w2 hv2 k2)
      refine ⟨⟨k + 1, by go_num, by omega, hid (by rw [HT.out]; exact hv2.mono fun k _ h => by rcases h with h | h; exact h; (have := kw.size; omega)), hid ((hold.out.trans' kw).trans k2 fun k hk _ => by show ¬ w.heap.size ≤ k; omega)⟩, by simp [intOf]; omega⟩
    · obtain rfl : k = bs.length := by omega
      have hO' := hO.out
      rw [List.take_length] at hO'
      have HO := hid hO'
      clear hO'
      go_wp2
      go_ret
      exact ⟨_, rfl, HO.out, hold.out⟩

/-! ### what a tale holds -/

/-- A point: the generation, how many of its records, the bytes. -/
structure Pt where
  gen : Nat
  n : Nat
  at_ : Nat
def rowP (ps : List Pt) : List Value := ps.flatMap fun x => [.int .i64 (x.gen : Int), .int .i64 (x.n : Int), .int .i64 (x.at_ : Int)]
theorem rowP_cons (x : Pt) (ps : List Pt) : rowP (x :: ps) = .int .i64 (x.gen : Int) :: .int .i64 (x.n : Int) :: .int .i64 (x.at_ : Int) :: rowP ps := rfl
theorem rowP_append (a b : List Pt) : rowP (a ++ b) = rowP a ++ rowP b := by simp [rowP]
theorem rowP_drop (q : List Pt) (i : Nat) : (rowP q).drop (i * 3) = rowP (q.drop i) := by
  induction q generalizing i with
  | nil => simp [rowP]
  | cons x q ih =>
    cases i with
    | zero => simp
    | succ i => rw [rowP_cons, show (i + 1) * 3 = i * 3 + 1 + 1 + 1 by omega]; simp [ih]
theorem rowP_get (q : List Pt) (i : Nat) (h : i < q.length) : (rowP q)[i * 3]? = some (.int .i64 (q[i].gen : Int)) ∧ (rowP q)[i * 3 + 1]? = some (.int .i64 (q[i].n : Int)) ∧ (rowP q)[i * 3 + 2]? = some (.int .i64 (q[i].at_ : Int)) := by
  have e := rowP_drop q i
  rw [List.drop_eq_getElem_cons h, rowP_cons] at e
  refine ⟨?_, ?_, ?_⟩
  · have := congrArg (fun l => l[0]?) e; simpa using this
  · have := congrArg (fun l => l[1]?) e; simpa using this
  · have := congrArg (fun l => l[2]?) e; simpa using this

/-- The blocks of records of generations gone by. -/
def TS (T : Nat → Prop) (t : Nat) (vG vP vR : Value) (k : Nat) : Prop := T k ∧ k ≠ t ∧ vG.ownBlock ≠ some k ∧ vP.ownBlock ≠ some k ∧ vR.ownBlock ≠ some k

/-- A tale at block t: gi: the generations gone by, gl: what stands for the last one. -/
structure TaleM (T : Nat → Prop) (w : World) (t : Nat) (vG vP vR : Value) (gi : List (Recs × Value)) (gl : List Value) (pts : List Pt) (rq : List (List UInt8 × Value)) (size written : Nat) : Prop where
  head : w.heap[t]? = some (.cells #[vG, vP, vR, .int .i64 (size : Int), .int .i64 (written : Int)] 60 (0, 0))
  g : w.ownsRow 0 35 1 vG (gi.length + gl.length) (gi.map (·.2) ++ gl)
  gf : ∀ k, vG.ownBlock = some k → T k
  p : w.ownsRow 0 62 3 vP pts.length (rowP pts)
  pf : ∀ k, vP.ownBlock = some k → T k
  r : OwnR T w vR rq
  gv : ∀ x ∈ gi, ∃ A c, x.2 = .slice A x.1.length c ∧ x.1.length ≤ c ∧ Rcs (TS T t vG vP vR) w A x.1
  ft : T t
  lt : ∀ k, T k → k < w.heap.size

theorem OwnR.mono2 {F Q : Nat → Prop} {w : World} {L : Value} {q : List (List UInt8 × Value)} (h : OwnR F w L q) (hrow : ∀ k, L.ownBlock = some k → Q k) (hb : ∀ (v : Value) (n : Nat) (xs : List Value), w.ownsRow 0 5 1 v n xs → ∀ k, v.ownBlock = some k → Q k) : OwnR (fun k => F k ∧ Q k) w L q :=
  ⟨h.row, fun x hx => ⟨(h.own x hx).row, fun k hk => ⟨(h.own x hx).foot k hk, hb _ _ _ (h.own x hx).row k hk⟩, (h.own x hx).len⟩, fun k hk => ⟨h.foot k hk, hrow k hk⟩⟩

section
variable {T : Nat → Prop} {w w' : World} {t : Nat} {vG vP vR : Value} {gi : List (Recs × Value)} {gl : List Value} {pts : List Pt} {rq : List (List UInt8 × Value)} {size written : Nat}
theorem TaleM.keep (h : TaleM T w t vG vP vR gi gl pts rq size written) (hk : Keeps T w w') : TaleM T w' t vG vP vR gi gl pts rq size written :=
  ⟨hk.heap h.head h.ft, own_keeps h.g hk h.gf, h.gf, own_keeps h.p hk h.pf, h.pf, h.r.keep hk, fun x hx => by
    obtain ⟨A, c, e, h1, h2⟩ := h.gv x hx
    exact ⟨A, c, e, h1, h2.keep (hk.mono fun k _ hs => hs.1)⟩, h.ft, fun k hk' => Nat.lt_of_lt_of_le (h.lt k hk') hk.size⟩
/-- the blocks are apart -/
theorem TaleM.apart (h : TaleM T w t vG vP vR gi gl pts rq size written) : vG.ownBlock ≠ some t ∧ vP.ownBlock ≠ some t ∧ vR.ownBlock ≠ some t ∧ (∀ k, vG.ownBlock = some k → vP.ownBlock ≠ some k ∧ vR.ownBlock ≠ some k) ∧ (∀ k, vP.ownBlock = some k → vR.ownBlock ≠ some k) :=
  ⟨own_ne_heap h.g h.head (by decide), own_ne_heap h.p h.head (by decide), own_ne_heap h.r.row h.head (by decide), fun _ hk => ⟨own_ne h.g h.p (by decide) hk, own_ne h.g h.r.row (by decide) hk⟩, fun _ hk => own_ne h.p h.r.row (by decide) hk⟩
theorem TaleM.bytes (h : TaleM T w t vG vP vR gi gl pts rq size written) (v : Value) (n : Nat) (xs : List Value) (hv : w.ownsRow 0 5 1 v n xs) : ∀ k, v.ownBlock = some k → k ≠ t ∧ vG.ownBlock ≠ some k ∧ vP.ownBlock ≠ some k ∧ vR.ownBlock ≠ some k := fun k hk =>
  ⟨fun e => own_ne_heap hv h.head (by decide) (by rw [hk, e]), own_ne hv h.g (by decide) hk, own_ne hv h.p (by decide) hk, own_ne hv h.r.row (by decide) hk⟩
end

theorem OwnR.keepS {F S : Nat → Prop} {w w' : World} {L : Value} {q : List (List UInt8 × Value)} (h : OwnR F w L q) (hk : Keeps S w w') (h1 : ∀ k, L.ownBlock = some k → S k) (h2 : ∀ x ∈ q, ∀ k, x.2.ownBlock = some k → S k) : OwnR F w' L q :=
  ⟨own_keeps h.row hk h1, fun x hx => ⟨own_keeps (h.own x hx).row hk (h2 x hx), (h.own x hx).foot, (h.own x hx).len⟩, h.foot⟩

/-- A row of one cell an element: another value in the last place. -/
theorem own_last {w : World} {b e n c : Nat} {g : Nat} {xs : List Value} {x y : Value} (h : w.ownsRow b e 1 (.slice (some ⟨g, 0, none⟩) n c) n (xs ++ [x])) : (w.setCell ⟨g, xs.length, none⟩ y).ownsRow b e 1 (.slice (some ⟨g, 0, none⟩) n c) n (xs ++ [y]) := by
  obtain ⟨hl, h | ⟨g', cap, cur, hv, hb, hg, hnc, hcm, hcs, ht⟩⟩ := h
  · simp at h
  · injection hv with hA _ hc
    injection hA with hA
    injection hA with hA _ _
    subst hA hc
    have hl' : xs.length + 1 = n := by simpa using hl
    refine ⟨by simpa using hl, .inr ⟨g, c, cur.setIfInBounds xs.length y, rfl, hb, heap_setCell hg y, hnc, hcm, by simpa using hcs, ?_⟩⟩
    rw [Array.toList_setIfInBounds, List.take_set, ht, List.set_append_right _ _ (Nat.le_refl _), Nat.sub_self]
    rfl
theorem own_cell {w : World} {b e n : Nat} {v : Value} {xs : List Value} (h : w.ownsRow b e 1 v n xs) {i : Nat} (hi : i < n) : ∃ g c, v = .slice (some ⟨g, 0, none⟩) n c ∧ n ≤ c ∧ c ≤ maxLen ∧ w.cell? ⟨g, i, none⟩ = xs[i]? ∧ w.frozen? ⟨g, i, none⟩ = false := by
  obtain ⟨hl, h | ⟨g, cap, cur, hv, hb, hg, hnc, hcm, hcs, ht⟩⟩ := h
  · omega
  · refine ⟨g, cap, hv, hnc, hcm, ?_, frozen_of_heap hg⟩
    rw [cell_of_heap hg, ← ht, List.getElem?_take, if_pos (by omega)]
    simp

section
variable {T : Nat → Prop} {w w4 : World} {t : Nat} {vG vP vR : Value} {gi : List (Recs × Value)} {gl : List Value} {pts : List Pt} {rq : List (List UInt8 × Value)} {size written : Nat}

/-- What stands for the last generation is another one. -/
theorem TaleM.setLast {g c : Nat} {x0 y : Value} (h : TaleM T w t (.slice (some ⟨g, 0, none⟩) (gi.length + 1) c) vP vR gi [x0] pts rq size written) :
    TaleM T (w.setCell ⟨g, gi.length, none⟩ y) t (.slice (some ⟨g, 0, none⟩) (gi.length + 1) c) vP vR gi [y] pts rq size written := by
  obtain ⟨a1, a2, a3, a4, a5⟩ := h.apart
  have K : Keeps (· ≠ g) w (w.setCell ⟨g, gi.length, none⟩ y) := (Keeps.refl _ _).setCell (fun _ h => h rfl) _
  obtain ⟨b1, b2⟩ := a4 g rfl
  have hg := h.g
  rw [show gi.length = (gi.map (·.2)).length by simp] at hg
  have ho := own_last (y := y) hg
  rw [show (gi.map (·.2)).length = gi.length by simp] at ho
  exact ⟨K.heap h.head (fun e => a1 (by rw [e]; rfl)), ho, h.gf, own_keeps h.p K (fun k hk e => b1 (by rw [← e]; exact hk)), h.pf,
    h.r.keepS K (fun k hk e => b2 (by rw [← e]; exact hk)) (fun x hx k hk e => (h.bytes _ _ _ (h.r.own x hx).row k hk).2.1 (by rw [e]; rfl)), fun x hx => by
      obtain ⟨A, c', e, h1, h2⟩ := h.gv x hx
      exact ⟨A, c', e, h1, h2.keep (K.mono fun k _ hs e => hs.2.2.1 (by rw [e]; rfl))⟩, h.ft, fun k hk => Nat.lt_of_lt_of_le (h.lt k hk) K.size⟩

/-- A point more. -/
theorem TaleM.pushP {v2 : Value} {x : Pt} (h : TaleM T w t vG vP vR gi gl pts rq size written) (K : Keeps (fun k => vP.ownBlock ≠ some k) w w4) (hown : w4.ownsRow 0 62 3 v2 (pts.length + 1) (rowP pts ++ rowP [x])) (hat : v2.ownBlock = vP.ownBlock ∨ v2.ownBlock = some w.heap.size) :
    TaleM (fun k => T k ∨ v2.ownBlock = some k) (w4.setCell ⟨t, 1, none⟩ v2) t vG v2 vR gi gl (pts ++ [x]) rq size written := by
  obtain ⟨a1, a2, a3, a4, a5⟩ := h.apart
  have hh := K.heap h.head a2
  have KS : Keeps (· ≠ t) w4 (w4.setCell ⟨t, 1, none⟩ v2) := (Keeps.refl _ _).setCell (fun _ h => h rfl) _
  have KB : Keeps (fun k => k ≠ t ∧ vP.ownBlock ≠ some k) w (w4.setCell ⟨t, 1, none⟩ v2) := (K.mono fun _ _ h => h.2).trans KS fun _ _ h => h.1
  have hv2 : v2.ownBlock ≠ some t := own_ne_heap hown hh (by decide)
  refine ⟨by rw [heap_setCell hh]; rfl, own_keeps h.g KB (fun k hk => ⟨fun e => a1 (by rw [hk, e]), (a4 k hk).1⟩), fun k hk => .inl (h.gf k hk), ?_, fun k hk => .inr hk,
    (h.r.keepS KB (fun k hk => ⟨fun e => a3 (by rw [hk, e]), fun e => a5 k e hk⟩) (fun x hx k hk => by have := h.bytes _ _ _ (h.r.own x hx).row k hk; exact ⟨this.1, this.2.2.1⟩)).mono fun k _ hk => .inl hk, fun x hx => ?_, .inl h.ft, fun k hk => ?_⟩
  · rw [rowP_append, List.length_append]
    exact own_keeps hown KS fun k hk e => hv2 (by rw [hk, e])
  · obtain ⟨A, c', e, h1, h2⟩ := h.gv x hx
    refine ⟨A, c', e, h1, (h2.keep (KB.mono fun k _ hs => ⟨hs.2.1, hs.2.2.2.1⟩)).mono fun k hk hs => ⟨.inl hs.1, hs.2.1, hs.2.2.1, ?_, hs.2.2.2.2⟩⟩
    rcases hat with e | e
    · rw [e]; exact hs.2.2.2.1
    · rw [e]; intro e2; injection e2 with e2; have := h.lt k hs.1; omega
  · rcases hk with hk | hk
    · exact Nat.lt_of_lt_of_le (h.lt k hk) KB.size
    · exact Nat.lt_of_lt_of_le (own_lt hown hk) KS.size

/-- Another list of generations: one more. -/
theorem TaleM.pushG {v2 y : Value} (h : TaleM T w t vG vP vR gi gl pts rq size written) (K : Keeps (fun k => vG.ownBlock ≠ some k) w w4) (hown : w4.ownsRow 0 35 1 v2 (gi.length + gl.length + 1) (gi.map (·.2) ++ gl ++ [y])) (hat : v2.ownBlock = vG.ownBlock ∨ v2.ownBlock = some w.heap.size) :
    TaleM (fun k => T k ∨ v2.ownBlock = some k) (w4.setCell ⟨t, 0, none⟩ v2) t v2 vP vR gi (gl ++ [y]) pts rq size written := by
  obtain ⟨a1, a2, a3, a4, a5⟩ := h.apart
  have hh := K.heap h.head a1
  have KS : Keeps (· ≠ t) w4 (w4.setCell ⟨t, 0, none⟩ v2) := (Keeps.refl _ _).setCell (fun _ h => h rfl) _
  have KB : Keeps (fun k => k ≠ t ∧ vG.ownBlock ≠ some k) w (w4.setCell ⟨t, 0, none⟩ v2) := (K.mono fun _ _ h => h.2).trans KS fun _ _ h => h.1
  have hv2 : v2.ownBlock ≠ some t := own_ne_heap hown hh (by decide)
  refine ⟨by rw [heap_setCell hh]; rfl, ?_, fun k hk => .inr hk, own_keeps h.p KB (fun k hk => ⟨fun e => a2 (by rw [hk, e]), fun e => (a4 k e).1 hk⟩), fun k hk => .inl (h.pf k hk),
    (h.r.keepS KB (fun k hk => ⟨fun e => a3 (by rw [hk, e]), fun e => (a4 k e).2 hk⟩) (fun x hx k hk => by have := h.bytes _ _ _ (h.r.own x hx).row k hk; exact ⟨this.1, this.2.1⟩)).mono fun k _ hk => .inl hk, fun x hx => ?_, .inl h.ft, fun k hk => ?_⟩
  · rw [List.length_append, ← List.append_assoc, ← Nat.add_assoc]
    exact own_keeps hown KS fun k hk e => hv2 (by rw [hk, e])
  · obtain ⟨A, c', e, h1, h2⟩ := h.gv x hx
    refine ⟨A, c', e, h1, (h2.keep (KB.mono fun k _ hs => ⟨hs.2.1, hs.2.2.1⟩)).mono fun k hk hs => ⟨.inl hs.1, hs.2.1, ?_, hs.2.2.2⟩⟩
    rcases hat with e | e
    · rw [e]; exact hs.2.2.1
    · rw [e]; intro e2; injection e2 with e2; have := h.lt k hs.1; omega
  · rcases hk with hk | hk
    · exact Nat.lt_of_lt_of_le (h.lt k hk) KB.size
    · exact Nat.lt_of_lt_of_le (own_lt hown hk) KS.size

/-- A record more. -/
theorem TaleM.pushR {G : Nat → Prop} {v2 : Value} {x : List UInt8 × Value} (h : TaleM T w t vG vP vR gi gl pts rq size written) (hx : OwnB G w x.2 x.1) (K : Keeps (fun k => vR.ownBlock ≠ some k) w w4) (hown : w4.ownsRow 0 22 1 v2 (rq.length + 1) (rq.map (·.2) ++ [x.2])) (hat : v2.ownBlock = vR.ownBlock ∨ v2.ownBlock = some w.heap.size) :
    TaleM (fun k => T k ∨ (G k ∧ k < w.heap.size) ∨ v2.ownBlock = some k) (w4.setCell ⟨t, 2, none⟩ v2) t vG vP v2 gi gl pts (rq ++ [x]) size written := by
  obtain ⟨a1, a2, a3, a4, a5⟩ := h.apart
  have hh := K.heap h.head a3
  have KS : Keeps (· ≠ t) w4 (w4.setCell ⟨t, 2, none⟩ v2) := (Keeps.refl _ _).setCell (fun _ h => h rfl) _
  have KB : Keeps (fun k => k ≠ t ∧ vR.ownBlock ≠ some k) w (w4.setCell ⟨t, 2, none⟩ v2) := (K.mono fun _ _ h => h.2).trans KS fun _ _ h => h.1
  have hv2 : v2.ownBlock ≠ some t := own_ne_heap hown hh (by decide)
  have hp := (OwnR.push (G := fun k => G k ∧ k < w.heap.size) h.r K ⟨hx.row, fun k hk => ⟨hx.foot k hk, own_lt hx.row hk⟩, hx.len⟩ hown).keepS KS (fun k hk e => hv2 (by rw [hk, e])) (fun y hy k hk e => by
    have hb := ((OwnR.push (G := fun k => G k ∧ k < w.heap.size) h.r K ⟨hx.row, fun k hk => ⟨hx.foot k hk, own_lt hx.row hk⟩, hx.len⟩ hown).own y hy).row
    exact own_ne_heap hb hh (by decide) (by rw [hk, e]))
  refine ⟨by rw [heap_setCell hh]; rfl, own_keeps h.g KB (fun k hk => ⟨fun e => a1 (by rw [hk, e]), (a4 k hk).2⟩), fun k hk => .inl (h.gf k hk), own_keeps h.p KB (fun k hk => ⟨fun e => a2 (by rw [hk, e]), a5 k hk⟩), fun k hk => .inl (h.pf k hk),
    hp, fun x hx => ?_, .inl h.ft, fun k hk => ?_⟩
  · obtain ⟨A, c', e, h1, h2⟩ := h.gv x hx
    refine ⟨A, c', e, h1, (h2.keep (KB.mono fun k _ hs => ⟨hs.2.1, hs.2.2.2.2⟩)).mono fun k hk hs => ⟨.inl hs.1, hs.2.1, hs.2.2.1, hs.2.2.2.1, ?_⟩⟩
    rcases hat with e | e
    · rw [e]; exact hs.2.2.2.2
    · rw [e]; intro e2; injection e2 with e2; have := h.lt k hs.1; omega
  · rcases hk with hk | hk | hk
    · exact Nat.lt_of_lt_of_le (h.lt k hk) KB.size
    · exact Nat.lt_of_lt_of_le hk.2 KB.size
    · exact Nat.lt_of_lt_of_le (own_lt hown hk) KS.size

/-- A generation begins: what stood at the last place is one gone by. -/
theorem TaleM.newR {y : Value} (h : TaleM T w t vG vP vR gi [vR, y] pts rq size written) (hl : rq.length ≤ 281474976710656) :
    TaleM T (w.setCell ⟨t, 2, none⟩ (.slice none 0 0)) t vG vP (.slice none 0 0) (gi ++ [(rq.map (·.1), vR)]) [y] pts [] size written := by
  obtain ⟨a1, a2, a3, a4, a5⟩ := h.apart
  have KS : Keeps (· ≠ t) w (w.setCell ⟨t, 2, none⟩ (.slice none 0 0)) := (Keeps.refl _ _).setCell (fun _ h => h rfl) _
  refine ⟨by rw [heap_setCell h.head]; rfl, ?_, h.gf, own_keeps h.p KS (fun k hk e => a2 (by rw [hk, e])), h.pf, OwnR.nil _ _, fun x hx => ?_, h.ft, fun k hk => Nat.lt_of_lt_of_le (h.lt k hk) KS.size⟩
  · have hg := own_keeps h.g KS (fun k hk e => a1 (by rw [hk, e]))
    rw [List.map_append, List.append_assoc, List.length_append, Nat.add_assoc]
    exact hg
  · rcases List.mem_append.1 hx with hx | hx
    · obtain ⟨A, c', e, h1, h2⟩ := h.gv x hx
      exact ⟨A, c', e, h1, (h2.keep (KS.mono fun k _ hs => hs.2.1)).mono fun k _ hs => ⟨hs.1, hs.2.1, hs.2.2.1, hs.2.2.2.1, by simp [Value.ownBlock]⟩⟩
    · obtain rfl : x = (rq.map (·.1), vR) := by simpa using hx
      have h2 := h.r.mono2 (Q := fun k => k ≠ t ∧ vG.ownBlock ≠ some k ∧ vP.ownBlock ≠ some k) (fun k hk => ⟨fun e => a3 (by rw [hk, e]), fun e => (a4 k e).2 hk, fun e => a5 k e hk⟩) (fun v n xs hv k hk => by have := h.bytes v n xs hv k hk; exact ⟨this.1, this.2.1, this.2.2.1⟩)
      obtain ⟨A, c', e, hc, hR⟩ := h2.rcs hl
      refine ⟨A, c', by rw [List.length_map]; exact e, by rw [List.length_map]; exact hc, (hR.keep (KS.mono fun k _ hs => hs.2.1)).mono fun k _ hs => ⟨hs.1, hs.2.1, hs.2.2.1, hs.2.2.2, by simp [Value.ownBlock]⟩⟩

/-- Numbers. -/
theorem TaleM.setInt {size' written' : Nat} {i : Nat} {v : Value} (h : TaleM T w t vG vP vR gi gl pts rq size written) (hi : (i = 3 ∧ v = .int .i64 (size' : Int) ∧ written' = written) ∨ (i = 4 ∧ v = .int .i64 (written' : Int) ∧ size' = size)) :
    TaleM T (w.setCell ⟨t, i, none⟩ v) t vG vP vR gi gl pts rq size' written' := by
  obtain ⟨a1, a2, a3, a4, a5⟩ := h.apart
  have KS : Keeps (· ≠ t) w (w.setCell ⟨t, i, none⟩ v) := (Keeps.refl _ _).setCell (fun _ h => h rfl) _
  refine ⟨?_, own_keeps h.g KS (fun k hk e => a1 (by rw [hk, e])), h.gf, own_keeps h.p KS (fun k hk e => a2 (by rw [hk, e])), h.pf, h.r.keepS KS (fun k hk e => a3 (by rw [hk, e])) (fun x hx k hk => (h.bytes _ _ _ (h.r.own x hx).row k hk).1), fun x hx => ?_, h.ft, fun k hk => Nat.lt_of_lt_of_le (h.lt k hk) KS.size⟩
  · rw [heap_setCell h.head]
    rcases hi with ⟨rfl, rfl, rfl⟩ | ⟨rfl, rfl, rfl⟩ <;> rfl
  · obtain ⟨A, c', e, h1, h2⟩ := h.gv x hx
    exact ⟨A, c', e, h1, h2.keep (KS.mono fun k _ hs => hs.2.1)⟩
/-- No points. -/
theorem TaleM.noP (h : TaleM T w t vG vP vR gi gl pts rq size written) : TaleM T (w.setCell ⟨t, 1, none⟩ (.slice none 0 0)) t vG (.slice none 0 0) vR gi gl [] rq size written := by
  obtain ⟨a1, a2, a3, a4, a5⟩ := h.apart
  have KS : Keeps (· ≠ t) w (w.setCell ⟨t, 1, none⟩ (.slice none 0 0)) := (Keeps.refl _ _).setCell (fun _ h => h rfl) _
  refine ⟨by rw [heap_setCell h.head]; rfl, own_keeps h.g KS (fun k hk e => a1 (by rw [hk, e])), h.gf, World.ownsRow_nil _ _ _ _, by simp [Value.ownBlock], h.r.keepS KS (fun k hk e => a3 (by rw [hk, e])) (fun x hx k hk => (h.bytes _ _ _ (h.r.own x hx).row k hk).1), fun x hx => ?_, h.ft, fun k hk => Nat.lt_of_lt_of_le (h.lt k hk) KS.size⟩
  obtain ⟨A, c', e, h1, h2⟩ := h.gv x hx
  exact ⟨A, c', e, h1, (h2.keep (KS.mono fun k _ hs => hs.2.1)).mono fun k _ hs => ⟨hs.1, hs.2.1, hs.2.2.1, by simp [Value.ownBlock], hs.2.2.2.2⟩⟩
end
end Go.Proofs.YtdpaaoeipconcaaDoor
