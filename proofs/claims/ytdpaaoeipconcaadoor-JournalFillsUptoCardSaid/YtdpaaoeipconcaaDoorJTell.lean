/- weftlaw12.Tale: tell: a step on a journal and on its tale: the answer is true, and both go on. Conditions: both lie, the step can be read, the table lies. -/
import Derived.Test.YtdpaaoeipconcaaDoorJAt
import Derived.Test.YtdpaaoeipconcaaDoorJPlays
namespace Go.Proofs.YtdpaaoeipconcaaDoor
open Go.RowKit

/-- A journal and its tale. -/
structure TJ (F T : Nat → Prop) (w : World) (g t : Nat) (vA vB vP : Value) (q : List (Wr × Value)) (uG uP uR : Value) (gi : List (Recs × Value)) (pts : List Pt) (rq : List (List UInt8 × Value)) (j : Jn) (R0 : Recs) (rest : List (Recs × Nat)) (R : Recs) : Prop where
  net : LNet F w g vA vB vP q j
  tale : TaleM T w t uG uP uR gi [uR] pts rq (16 + sizeF R) (dirtyN j.ws)
  recs : rq.map (·.1) = R
  hist : HistOK (gi.map (·.1) ++ [R]) pts ((R0, 0) :: rest)
  apart : ∀ k, F k → ¬ T k
  rec_ : RecJ j R0 rest R

/-- .. and how much there is of them -/
def TJs (N : Nat) (B : Nat → Prop) (w : World) (g t : Nat) (j : Jn) (R0 : Recs) (rest : List (Recs × Nat)) (R : Recs) : Prop :=
  ∃ F T vA vB vP q uG uP uR gi pts rq, TJ F T w g t vA vB vP q uG uP uR gi pts rq j R0 rest R ∧ j.ws.length ≤ N ∧ gi.length ≤ N ∧ pts.length ≤ N ∧ (∀ k, F k → B k) ∧ (∀ k, T k → B k)

def PostTell (N : Nat) (B : Nat → Prop) (w : World) (g t : Nat) (j : Jn) (kind : Int) (one : List UInt8) (many : Recs) (e : Ending) (w' : World) : Prop :=
  e = .returned (.bool true) ∧ ∃ R0 rest R, TJs (N + 1) (fun k => B k ∨ w.heap.size ≤ k) w' g t (stepJ j kind one many) R0 rest R ∧ Keeps (fun k => ¬ B k) w w'

/-- The parts of its end. -/
theorem post_tell {N : Nat} {B : Nat → Prop} {w w' : World} {g t : Nat} {j j' : Jn} {kind : Int} {one : List UInt8} {many : Recs} {F T : Nat → Prop} {vA vB vP : Value} {q : List (Wr × Value)} {uG uP uR : Value} {gi : List (Recs × Value)} {pts : List Pt} {rq : List (List UInt8 × Value)} {R0 : Recs} {rest : List (Recs × Nat)} {R : Recs}
    (h : TJ F T w' g t vA vB vP q uG uP uR gi pts rq j' R0 rest R) (hj : stepJ j kind one many = j') (h1 : j'.ws.length ≤ N + 1) (h2 : gi.length ≤ N + 1) (h3 : pts.length ≤ N + 1) (hF : ∀ k, F k → B k ∨ w.heap.size ≤ k) (hT : ∀ k, T k → B k ∨ w.heap.size ≤ k) (hK : Keeps (fun k => ¬ B k) w w') :
    PostTell N B w g t j kind one many (.returned (.bool true)) w' := by
  subst hj
  exact ⟨rfl, R0, rest, R, ⟨F, T, vA, vB, vP, q, uG, uP, uR, gi, pts, rq, h, h1, h2, h3, hF, hT⟩, hK⟩


set_option maxRecDepth 10000 in
set_option maxHeartbeats 8000000 in
theorem tell_other (w : World) (F T : Nat → Prop) (g t : Nat) (vA vB vP : Value) (q : List (Wr × Value)) (uG uP uR : Value) (gi : List (Recs × Value)) (pts : List Pt) (rq : List (List UInt8 × Value)) (j : Jn) (R0 : Recs) (rest : List (Recs × Nat)) (R : Recs)
    (h : TJ F T w g t vA vB vP q uG uP uR gi pts rq j R0 rest R) (N : Nat) (B : Nat → Prop) (h1 : j.ws.length ≤ N) (h2 : gi.length ≤ N) (h3 : pts.length ≤ N) (hN : N ≤ 2900000000000) (hFB : ∀ k, F k → B k) (hTB : ∀ k, T k → B k)
    (kind n : Int) (A C : Option Addr) (c d : Nat) (one : List UInt8) (many : Recs) (hk1 : kind ≠ 1) (hk2 : kind ≠ 2) (hk3 : kind ≠ 3) :
    Calls Tryd.prog 39 #[.pointer (some ⟨t, 0, none⟩), .pointer (some ⟨g, 0, none⟩), .agg #[.int .i64 kind, .slice A one.length c, .slice C many.length d, .int .i64 n]] w (PostTell N B w g t j kind one many) := by
  obtain ⟨W0, hW0⟩ : ∃ W, W = w.alloc (.cells #[.int .i64 kind, .slice A one.length c, .slice C many.length d, .int .i64 n] 54) := ⟨_, rfl⟩
  have k0 : Old w W0 := by rw [hW0]; exact (Keeps.refl _ _).alloc _
  have hb0 : W0.heap[w.heap.size]? = some (.cells #[.int .i64 kind, .slice A one.length c, .slice C many.length d, .int .i64 n] 54 (0, 0)) := by rw [hW0]; exact heap_alloc_new _ _
  have x0 : W0.cell? ⟨w.heap.size, 0, none⟩ = some (.int .i64 kind) := cell_of_heap hb0
  have x1 : W0.cell? ⟨w.heap.size, 1, none⟩ = some (.slice A one.length c) := cell_of_heap hb0
  have x2 : W0.cell? ⟨w.heap.size, 2, none⟩ = some (.slice C many.length d) := cell_of_heap hb0
  have z0 := k0.size
  have hgz : g < w.heap.size := h.net.lt g h.net.fg
  have htz : t < w.heap.size := h.tale.lt t h.tale.ft
  obtain ⟨sz, hsz⟩ : ∃ sz, sz = 16 + sizeF R := ⟨_, rfl⟩
  obtain ⟨dn, hdn⟩ : ∃ dn, dn = dirtyN j.ws := ⟨_, rfl⟩
  have hn0 := h.net.keep (k0.old _)
  have HTT : Hid (TaleM T W0 t uG uP uR gi [uR] pts rq sz dn) := hid (by rw [hsz, hdn]; exact h.tale.keep (k0.old _))
  have he := h.rec_.log.end_
  have HSZ := hid (show Calls Tryd.prog 21 #[.pointer (some ⟨g, 0, none⟩)] W0.drew fun e w' => e = .returned (.int .i64 (sz : Int)) ∧ W0.drew = w' from by
    have := lsize_any (hn0.keep (Keeps.refl _ _).drew)
    rwa [he, ← hsz] at this)
  have HDN := hid (show Calls Tryd.prog 23 #[.pointer (some ⟨g, 0, none⟩)] W0.drew fun e w' => e = .returned (.int .i64 (dn : Int)) ∧ Old W0.drew w' from by
    have := ldirty_any (hn0.keep (Keeps.refl _ _).drew) (by omega)
    rwa [← hdn] at this)
  have f1 : (kind == 1) = false := by rw [beq_eq_false_iff_ne]; exact hk1
  have f2 : (kind == 2) = false := by rw [beq_eq_false_iff_ne]; exact hk2
  have f3 : (kind == 3) = false := by rw [beq_eq_false_iff_ne]; exact hk3
  have HH := hid h
  have hstep : stepJ j kind one many = j := by unfold stepJ; rw [if_neg hk1, if_neg hk2, if_neg hk3]
  have HST := hid hstep
  have HZ := hid (And.intro hsz hdn)
  clear h he hsz hdn hstep hk1 hk2 hk3 hn0
  go_enter Tryd.func39, Tryd.ntmps39
  go_upto_region 1 with fail
  rw [← hW0]
  clear hW0
  have e3 : W0.cell? ⟨t, 3, none⟩ = some (.int .i64 (sz : Int)) := cell_of_heap HTT.out.head
  have e4 : W0.cell? ⟨t, 4, none⟩ = some (.int .i64 (dn : Int)) := cell_of_heap HTT.out.head
  go_upto_region 36 with fail
  refine wp_region_tree (fun w' => w'.cell? ⟨t, 3, none⟩ = some (.int .i64 (sz : Int)) ∧ w'.cell? ⟨t, 4, none⟩ = some (.int .i64 (dn : Int))) 17
    (.take 0 (.take 2 (.take 3 (.take 4 (.take 5 (.one 1 (.take 6 (.take 7 (.take 8 (.take 10 (.take 11 (.take 12 (.take 13 (.one 9 (.take 14 (.take 15 (.take 16 .tail))))))))))))))))) (by kernel_rfl) (by kernel_rfl) ⟨e3, e4⟩ ?_
  iterate 5 (refine pt_take (v := ?_) (by rfl) (by first | rfl | kernel_rfl) (fun w' hS => ?_) ?_; rotate_left 1; (obtain ⟨s0, s1⟩ := hS; go_simp <;> (try with_reducible rfl)); (simp only [Act.put, List.setIfInBounds_toArray, List.set_cons_zero, List.set_cons_succ]))
  refine pt_one (by rfl) (loudly_of (by first | rfl | kernel_rfl) (fun K hK => ?_))
  go_wp2_with (go_at_call 21; refine HSZ.out.mono ?_)
  rintro e w5 ⟨rfl, rfl⟩
  refine hK _ _ ⟨e3, e4⟩ ?_
  clear hK K
  iterate 7 (refine pt_take (v := ?_) (by rfl) (by first | rfl | kernel_rfl) (fun w' hS => ?_) ?_; rotate_left 1; (obtain ⟨s0, s1⟩ := hS; go_simp <;> (try with_reducible rfl)); (simp only [Act.put, List.setIfInBounds_toArray, List.set_cons_zero, List.set_cons_succ]))
  refine pt_one (by rfl) (loudly_of (by first | rfl | kernel_rfl) (fun K hK => ?_))
  go_wp2_with (go_at_call 23; refine HDN.out.mono ?_)
  rintro e w5 ⟨rfl, k5⟩
  refine hK _ _ ⟨(k5.cell (p := ⟨t, 3, none⟩) (lt_of_cell e3) trivial).trans e3, (k5.cell (p := ⟨t, 4, none⟩) (lt_of_cell e4) trivial).trans e4⟩ ?_
  clear hK K
  iterate 3 (refine pt_take (v := ?_) (by rfl) (by first | rfl | kernel_rfl) (fun w' hS => ?_) ?_; rotate_left 1; (obtain ⟨s0, s1⟩ := hS; go_simp <;> (try with_reducible rfl)); (simp only [Act.put, List.setIfInBounds_toArray, List.set_cons_zero, List.set_cons_succ]))
  refine pt_tail (by rfl) ?_
  go_wp2
  refine NoPanic.normal ?_
  have k6 : Old W0 w5 := k5.ofDrew
  go_wp2
  go_ret
  have K := k0.trans' k6
  exact post_tell (F := F) (T := T) ⟨HH.out.net.keep (K.old _), HH.out.tale.keep (K.old _), HH.out.recs, HH.out.hist, HH.out.apart, HH.out.rec_⟩ HST.out (by omega) (by omega) (by omega) (fun k hk => .inl (hFB k hk)) (fun k hk => .inl (hTB k hk)) (K.old _)

theorem ptOK_last {gi : List (Recs × Value)} {rq : List (List UInt8 × Value)} {R : Recs} (hr : rq.map (·.1) = R) (a : Nat) : PtOK (gi.map (·.1) ++ [R]) ⟨gi.length, rq.length, a⟩ (R, a) := by
  have hl : rq.length = R.length := by rw [← hr]; simp
  exact ⟨rfl, R, by show (gi.map (·.1) ++ [R])[gi.length]? = some R; rw [List.getElem?_append_right (by simp)]; simp, by show rq.length ≤ R.length; omega, by show R.take rq.length = R; rw [hl]; exact List.take_length⟩


set_option maxRecDepth 10000 in
set_option maxHeartbeats 8000000 in
theorem tell_sync (w : World) (F T : Nat → Prop) (g t : Nat) (vA vB vP : Value) (q : List (Wr × Value)) (uG uP uR : Value) (gi : List (Recs × Value)) (pts : List Pt) (rq : List (List UInt8 × Value)) (j : Jn) (R0 : Recs) (rest : List (Recs × Nat)) (R : Recs)
    (h : TJ F T w g t vA vB vP q uG uP uR gi pts rq j R0 rest R) (N : Nat) (B : Nat → Prop) (h1 : j.ws.length ≤ N) (h2 : gi.length ≤ N) (hN : N ≤ 2900000000000) (hFB : ∀ k, F k → B k) (hTB : ∀ k, T k → B k)
    (n : Int) (A C : Option Addr) (c d : Nat) (one : List UInt8) (many : Recs) :
    Calls Tryd.prog 39 #[.pointer (some ⟨t, 0, none⟩), .pointer (some ⟨g, 0, none⟩), .agg #[.int .i64 3, .slice A one.length c, .slice C many.length d, .int .i64 n]] w (PostTell N B w g t j 3 one many) := by
  obtain ⟨W0, hW0⟩ : ∃ W, W = w.alloc (.cells #[.int .i64 3, .slice A one.length c, .slice C many.length d, .int .i64 n] 54) := ⟨_, rfl⟩
  have k0 : Old w W0 := by rw [hW0]; exact (Keeps.refl _ _).alloc _
  have hb0 : W0.heap[w.heap.size]? = some (.cells #[.int .i64 3, .slice A one.length c, .slice C many.length d, .int .i64 n] 54 (0, 0)) := by rw [hW0]; exact heap_alloc_new _ _
  have x0 : W0.cell? ⟨w.heap.size, 0, none⟩ = some (.int .i64 3) := cell_of_heap hb0
  have x1 : W0.cell? ⟨w.heap.size, 1, none⟩ = some (.slice A one.length c) := cell_of_heap hb0
  have x2 : W0.cell? ⟨w.heap.size, 2, none⟩ = some (.slice C many.length d) := cell_of_heap hb0
  have z0 := k0.size
  have hgz : g < w.heap.size := h.net.lt g h.net.fg
  have htz : t < w.heap.size := h.tale.lt t h.tale.ft
  obtain ⟨sz, hsz⟩ : ∃ sz, sz = 16 + sizeF R := ⟨_, rfl⟩
  have hsy := lsync_any W0 F g vA vB vP q j (h.net.keep (k0.old _)) (by omega)
  have ht0 := h.tale.keep (k0.old _)
  rw [← hsz] at ht0
  have HH := hid h
  have HSZ0 := hid hsz
  have hrs := rec_sync h.rec_
  have HRS := hid hrs
  clear h hrs hsz
  go_enter Tryd.func39, Tryd.ntmps39
  go_upto_region 1 with fail
  rw [← hW0]
  clear hW0
  go_wp2_with fail
  refine hsy.mono ?_
  rintro e w1 ⟨rfl, F1, vA1, vB1, hn1, hF1, k1⟩
  clear hsy
  have z1 := k1.size
  have HFL := hid hn1.lt
  have ht1 := ht0.keep (k1.mono fun k _ hk hf => HH.out.apart k hf hk)
  have y4 : w1.cell? ⟨t, 4, none⟩ = some (.int .i64 (dirtyN j.ws : Nat)) := cell_of_heap ht1.head
  have y1 : w1.cell? ⟨t, 1, none⟩ = some uP := cell_of_heap ht1.head
  have yf : ∀ i, w1.frozen? ⟨t, i, none⟩ = false := fun i => frozen_of_heap ht1.head
  obtain ⟨W2, hW2⟩ : ∃ W, W = (w1.setCell ⟨t, 4, none⟩ (.int .i64 0)).setCell ⟨t, 1, none⟩ (.slice none 0 0) := ⟨_, rfl⟩
  have ht2 : TaleM T W2 t uG (.slice none 0 0) uR gi [uR] [] rq sz 0 := by rw [hW2]; exact (ht1.setInt (size' := sz) (written' := 0) (.inr ⟨rfl, rfl, rfl⟩)).noP
  have k2 : Keeps (· ≠ t) w1 W2 := by rw [hW2]; exact ((Keeps.refl _ _).setCell (fun _ h => h rfl) _).setCell (fun _ h => h rfl) _
  have hF1t : ∀ k, F1 k → ¬ T k := fun k hk hT => by
    rcases hF1 k hk with hf | hf
    · exact HH.out.apart k hf hT
    · have := HH.out.tale.lt k hT; omega
  have hn2 := hn1.keep (k2.mono fun k _ hk e => hF1t k hk (by rw [e]; exact HH.out.tale.ft))
  have hno := note_any W2 T t uG (.slice none 0 0) uR uR gi [] rq sz 0 ht2 (by simp) (by omega)
  clear ht0 ht1 x0 x1 x2
  go_upto_region 35 with fail
  rw [← hW2]
  clear hW2
  go_wp2_with fail
  refine hno.mono ?_
  rintro e w3 ⟨rfl, T3, uG3, uP3, ht3, hT3, k3⟩
  clear hno ht2
  have hn3 := hn2.keep (k3.mono fun k _ hk => hF1t k hk)
  obtain ⟨dn, hdn⟩ : ∃ dn, dn = (0 : Nat) := ⟨_, rfl⟩
  have hsz := HSZ0.out
  rw [← hdn] at ht3
  have HTT := hid ht3
  have he := HRS.out.log.end_
  have HSZ := hid (show Calls Tryd.prog 21 #[.pointer (some ⟨g, 0, none⟩)] w3.drew fun e w' => e = .returned (.int .i64 (sz : Int)) ∧ w3.drew = w' from by
    have := lsize_any (hn3.keep (Keeps.refl _ _).drew)
    rwa [he, ← hsz] at this)
  have HDN := hid (show Calls Tryd.prog 23 #[.pointer (some ⟨g, 0, none⟩)] w3.drew fun e w' => e = .returned (.int .i64 (dn : Int)) ∧ Old w3.drew w' from by
    have := ldirty_any (hn3.keep (Keeps.refl _ _).drew) (by simp [syncJ])
    rwa [show dirtyN (syncJ j).ws = dn by rw [hdn]; rfl] at this)
  have HD0 := hid hdn
  clear hsz hdn he
  have z3 := k3.size
  have z2 := k2.size
  have HN := hid hn3
  clear hn3 hn2 hn1 ht3
  have e3 : w3.cell? ⟨t, 3, none⟩ = some (.int .i64 (sz : Int)) := cell_of_heap HTT.out.head
  have e4 : w3.cell? ⟨t, 4, none⟩ = some (.int .i64 (dn : Int)) := cell_of_heap HTT.out.head
  go_upto_region 36 with fail
  refine wp_region_tree (fun w' => w'.cell? ⟨t, 3, none⟩ = some (.int .i64 (sz : Int)) ∧ w'.cell? ⟨t, 4, none⟩ = some (.int .i64 (dn : Int))) 17
    (.take 0 (.take 2 (.take 3 (.take 4 (.take 5 (.one 1 (.take 6 (.take 7 (.take 8 (.take 10 (.take 11 (.take 12 (.take 13 (.one 9 (.take 14 (.take 15 (.take 16 .tail))))))))))))))))) (by kernel_rfl) (by kernel_rfl) ⟨e3, e4⟩ ?_
  iterate 5 (refine pt_take (v := ?_) (by rfl) (by first | rfl | kernel_rfl) (fun w' hS => ?_) ?_; rotate_left 1; (obtain ⟨s0, s1⟩ := hS; go_simp <;> (try with_reducible rfl)); (simp only [Act.put, List.setIfInBounds_toArray, List.set_cons_zero, List.set_cons_succ]))
  refine pt_one (by rfl) (loudly_of (by first | rfl | kernel_rfl) (fun K hK => ?_))
  go_wp2_with (go_at_call 21; refine HSZ.out.mono ?_)
  rintro e w5 ⟨rfl, rfl⟩
  refine hK _ _ ⟨e3, e4⟩ ?_
  clear hK K
  iterate 7 (refine pt_take (v := ?_) (by rfl) (by first | rfl | kernel_rfl) (fun w' hS => ?_) ?_; rotate_left 1; (obtain ⟨s0, s1⟩ := hS; go_simp <;> (try with_reducible rfl)); (simp only [Act.put, List.setIfInBounds_toArray, List.set_cons_zero, List.set_cons_succ]))
  refine pt_one (by rfl) (loudly_of (by first | rfl | kernel_rfl) (fun K hK => ?_))
  go_wp2_with (go_at_call 23; refine HDN.out.mono ?_)
  rintro e w5 ⟨rfl, k5⟩
  refine hK _ _ ⟨(k5.cell (p := ⟨t, 3, none⟩) (lt_of_cell e3) trivial).trans e3, (k5.cell (p := ⟨t, 4, none⟩) (lt_of_cell e4) trivial).trans e4⟩ ?_
  clear hK K
  iterate 3 (refine pt_take (v := ?_) (by rfl) (by first | rfl | kernel_rfl) (fun w' hS => ?_) ?_; rotate_left 1; (obtain ⟨s0, s1⟩ := hS; go_simp <;> (try with_reducible rfl)); (simp only [Act.put, List.setIfInBounds_toArray, List.set_cons_zero, List.set_cons_succ]))
  refine pt_tail (by rfl) ?_
  go_wp2
  refine NoPanic.normal ?_
  have k6 : Old w3 w5 := k5.ofDrew
  go_wp2
  go_ret
  have K := k6
  have z6 := k6.size
  have hT3F : ∀ k, F1 k → ¬ T3 k := fun k hk hT => by
    rcases hT3 k hT with h | h
    · exact hF1t k hk h
    · have := HFL.out k hk
      omega
  exact post_tell (F := F1) (T := T3) ⟨HN.out.keep (K.old _), by
      have q := HTT.out.keep (K.old _)
      rw [HD0.out, HSZ0.out] at q
      exact q, HH.out.recs, by
      exact (HistOK.nil _).push (ptOK_last HH.out.recs 0), hT3F, HRS.out⟩ (by unfold stepJ; rfl) (by simp [syncJ]) (by omega) (by simp)
    (fun k hk => by
      rcases hF1 k hk with h | h
      · exact .inl (hFB k h)
      · right; omega)
    (fun k hk => by
      rcases hT3 k hk with h | h
      · exact .inl (hTB k h)
      · right; omega)
    (((((k0.old _).trans' (k1.mono fun k _ hk hf => hk (hFB k hf))).trans' (k2.mono fun k _ hk e => hk (by rw [e]; exact hTB t HH.out.tale.ft))).trans' (k3.mono fun k _ hk hf => hk (hTB k hf))).trans' (K.old _))


set_option maxRecDepth 10000 in
set_option maxHeartbeats 8000000 in
theorem tell_long (w : World) (F T : Nat → Prop) (g t : Nat) (vA vB vP : Value) (q : List (Wr × Value)) (uG uP uR : Value) (gi : List (Recs × Value)) (pts : List Pt) (rq : List (List UInt8 × Value)) (j : Jn) (R0 : Recs) (rest : List (Recs × Nat)) (R : Recs)
    (h : TJ F T w g t vA vB vP q uG uP uR gi pts rq j R0 rest R) (N : Nat) (B S : Nat → Prop) (h1 : j.ws.length ≤ N) (h2 : gi.length ≤ N) (h3 : pts.length ≤ N) (hN : N ≤ 2900000000000) (hFB : ∀ k, F k → B k) (hTB : ∀ k, T k → B k)
    (n : Int) (A C : Option Addr) (c d : Nat) (one : List UInt8) (many : Recs) (hA : Bts S w A one) (hTb : Tab w) (hl : 65536 < one.length) :
    Calls Tryd.prog 39 #[.pointer (some ⟨t, 0, none⟩), .pointer (some ⟨g, 0, none⟩), .agg #[.int .i64 1, .slice A one.length c, .slice C many.length d, .int .i64 n]] w (PostTell N B w g t j 1 one many) := by
  obtain ⟨W0, hW0⟩ : ∃ W, W = w.alloc (.cells #[.int .i64 1, .slice A one.length c, .slice C many.length d, .int .i64 n] 54) := ⟨_, rfl⟩
  have k0 : Old w W0 := by rw [hW0]; exact (Keeps.refl _ _).alloc _
  have hb0 : W0.heap[w.heap.size]? = some (.cells #[.int .i64 1, .slice A one.length c, .slice C many.length d, .int .i64 n] 54 (0, 0)) := by rw [hW0]; exact heap_alloc_new _ _
  have x0 : W0.cell? ⟨w.heap.size, 0, none⟩ = some (.int .i64 1) := cell_of_heap hb0
  have x1 : W0.cell? ⟨w.heap.size, 1, none⟩ = some (.slice A one.length c) := cell_of_heap hb0
  have x2 : W0.cell? ⟨w.heap.size, 2, none⟩ = some (.slice C many.length d) := cell_of_heap hb0
  have z0 := k0.size
  have hgz : g < w.heap.size := h.net.lt g h.net.fg
  have htz : t < w.heap.size := h.tale.lt t h.tale.ft
  have hap : appendJ j one = (2, j) := by rw [appendJ, if_pos hl]
  have happ := append_any W0 F S g vA vB vP q j A one.length c one (h.net.keep (k0.old _)) (hA.keep (k0.old _)) rfl (hTb.keep (k0.old (fun _ => True)) trivial) (by omega)
  rw [hap] at happ
  have i1 : (one.length : Int) > 65536 := by omega
  go_enter Tryd.func39, Tryd.ntmps39
  go_upto_region 1 with fail
  rw [← hW0]
  clear hW0
  go_wp2_with fail
  refine happ.mono ?_
  rintro e w1 ⟨rfl, F1, vP1, q1, hn1, hF1, k1⟩
  clear happ
  have z1 := k1.size
  have ht1 := (h.tale.keep (k0.old _)).keep (k1.mono fun k _ hk hf => h.apart k hf hk)
  have hF1t : ∀ k, F1 k → ¬ T k := fun k hk hT => by
    rcases hF1 k hk with hf | hf
    · exact h.apart k hf hT
    · have := h.tale.lt k hT; omega
  have hbk : Keeps (fun k => k = w.heap.size) W0 w1 := k1.mono fun k _ hk hf => by have := h.net.lt k hf; omega
  have x1 : w1.cell? ⟨w.heap.size, 1, none⟩ = some (.slice A one.length c) := (hbk.cell (p := ⟨w.heap.size, 1, none⟩) (lt_of_cell x1) rfl).trans x1
  clear x0 x2
  go_wp2
  go_ret
  exact post_tell (F := F1) (T := T) ⟨hn1, ht1, h.recs, h.hist, hF1t, h.rec_⟩ (by unfold stepJ; rw [if_pos rfl, hap]) (by omega) (by omega) (by omega)
    (fun k hk => by
      rcases hF1 k hk with hf | hf
      · exact .inl (hFB k hf)
      · right; omega) (fun k hk => .inl (hTB k hk)) ((k0.old _).trans' (k1.mono fun k _ hk hf => hk (hFB k hf)))


set_option maxRecDepth 10000 in
set_option maxHeartbeats 8000000 in
theorem tell_full (w : World) (F T : Nat → Prop) (g t : Nat) (vA vB vP : Value) (q : List (Wr × Value)) (uG uP uR : Value) (gi : List (Recs × Value)) (pts : List Pt) (rq : List (List UInt8 × Value)) (j : Jn) (R0 : Recs) (rest : List (Recs × Nat)) (R : Recs)
    (h : TJ F T w g t vA vB vP q uG uP uR gi pts rq j R0 rest R) (N : Nat) (B S : Nat → Prop) (h1 : j.ws.length ≤ N) (h2 : gi.length ≤ N) (h3 : pts.length ≤ N) (hN : N ≤ 2900000000000) (hFB : ∀ k, F k → B k) (hTB : ∀ k, T k → B k)
    (n : Int) (A C : Option Addr) (c d : Nat) (one : List UInt8) (many : Recs) (hA : Bts S w A one) (hTb : Tab w) (hl : one.length ≤ 65536) (hf : 1048576 < j.end_ + 12 + one.length) :
    Calls Tryd.prog 39 #[.pointer (some ⟨t, 0, none⟩), .pointer (some ⟨g, 0, none⟩), .agg #[.int .i64 1, .slice A one.length c, .slice C many.length d, .int .i64 n]] w (PostTell N B w g t j 1 one many) := by
  obtain ⟨W0, hW0⟩ : ∃ W, W = w.alloc (.cells #[.int .i64 1, .slice A one.length c, .slice C many.length d, .int .i64 n] 54) := ⟨_, rfl⟩
  have k0 : Old w W0 := by rw [hW0]; exact (Keeps.refl _ _).alloc _
  have hb0 : W0.heap[w.heap.size]? = some (.cells #[.int .i64 1, .slice A one.length c, .slice C many.length d, .int .i64 n] 54 (0, 0)) := by rw [hW0]; exact heap_alloc_new _ _
  have x0 : W0.cell? ⟨w.heap.size, 0, none⟩ = some (.int .i64 1) := cell_of_heap hb0
  have x1 : W0.cell? ⟨w.heap.size, 1, none⟩ = some (.slice A one.length c) := cell_of_heap hb0
  have x2 : W0.cell? ⟨w.heap.size, 2, none⟩ = some (.slice C many.length d) := cell_of_heap hb0
  have z0 := k0.size
  have hgz : g < w.heap.size := h.net.lt g h.net.fg
  have htz : t < w.heap.size := h.tale.lt t h.tale.ft
  have hap : appendJ j one = (4, j) := by rw [appendJ, if_neg (by omega), if_pos hf]
  have happ := append_any W0 F S g vA vB vP q j A one.length c one (h.net.keep (k0.old _)) (hA.keep (k0.old _)) rfl (hTb.keep (k0.old (fun _ => True)) trivial) (by omega)
  rw [hap] at happ
  have i1 : ¬ (one.length : Int) > 65536 := by omega
  have he := h.rec_.log.end_
  have hsm := h.net.good.end_
  obtain ⟨sz, hsz⟩ : ∃ sz, sz = 16 + sizeF R := ⟨_, rfl⟩
  have b1 : IntKind.i64.wrap (12 + (one.length : Int)) = 12 + (one.length : Int) := by rw [IntKind.wrap_i64]; omega
  have b2 : IntKind.i64.wrap ((sz : Int) + (12 + (one.length : Int))) = (sz : Int) + (12 + (one.length : Int)) := by rw [IntKind.wrap_i64]; omega
  have i2 : (sz : Int) + (12 + (one.length : Int)) > 1048576 := by omega
  have HSZ := hid hsz
  clear hsz he
  go_enter Tryd.func39, Tryd.ntmps39
  go_upto_region 1 with fail
  rw [← hW0]
  clear hW0
  go_wp2_with fail
  refine happ.mono ?_
  rintro e w1 ⟨rfl, F1, vP1, q1, hn1, hF1, k1⟩
  clear happ
  have z1 := k1.size
  have ht1 := (h.tale.keep (k0.old _)).keep (k1.mono fun k _ hk hf => h.apart k hf hk)
  have hF1t : ∀ k, F1 k → ¬ T k := fun k hk hT => by
    rcases hF1 k hk with hf | hf
    · exact h.apart k hf hT
    · have := h.tale.lt k hT; omega
  have hbk : Keeps (fun k => k = w.heap.size) W0 w1 := k1.mono fun k _ hk hf => by have := h.net.lt k hf; omega
  have x1 : w1.cell? ⟨w.heap.size, 1, none⟩ = some (.slice A one.length c) := (hbk.cell (p := ⟨w.heap.size, 1, none⟩) (lt_of_cell x1) rfl).trans x1
  clear x0 x2
  have y3 : w1.cell? ⟨t, 3, none⟩ = some (.int .i64 (sz : Int)) := by rw [HSZ.out]; exact cell_of_heap ht1.head
  go_wp2
  go_ret
  exact post_tell (F := F1) (T := T) ⟨hn1, ht1, h.recs, h.hist, hF1t, h.rec_⟩ (by unfold stepJ; rw [if_pos rfl, hap]) (by omega) (by omega) (by omega)
    (fun k hk => by
      rcases hF1 k hk with hf | hf
      · exact .inl (hFB k hf)
      · right; omega) (fun k hk => .inl (hTB k hk)) ((k0.old _).trans' (k1.mono fun k _ hk hf => hk (hFB k hf)))


set_option maxRecDepth 10000 in
set_option maxHeartbeats 8000000 in
theorem tell_append (w : World) (F T : Nat → Prop) (g t : Nat) (vA vB vP : Value) (q : List (Wr × Value)) (uG uP uR : Value) (gi : List (Recs × Value)) (pts : List Pt) (rq : List (List UInt8 × Value)) (j : Jn) (R0 : Recs) (rest : List (Recs × Nat)) (R : Recs)
    (h : TJ F T w g t vA vB vP q uG uP uR gi pts rq j R0 rest R) (N : Nat) (B S : Nat → Prop) (h1 : j.ws.length ≤ N) (h2 : gi.length ≤ N) (h3 : pts.length ≤ N) (hN : N ≤ 2900000000000) (hFB : ∀ k, F k → B k) (hTB : ∀ k, T k → B k)
    (n : Int) (A C : Option Addr) (c d : Nat) (one : List UInt8) (many : Recs) (hA : Bts S w A one) (hTb : Tab w) (hS : ∀ k, S k → ¬ B k) (hl : one.length ≤ 65536) (hf : j.end_ + 12 + one.length ≤ 1048576) :
    Calls Tryd.prog 39 #[.pointer (some ⟨t, 0, none⟩), .pointer (some ⟨g, 0, none⟩), .agg #[.int .i64 1, .slice A one.length c, .slice C many.length d, .int .i64 n]] w (PostTell N B w g t j 1 one many) := by
  obtain ⟨W0, hW0⟩ : ∃ W, W = w.alloc (.cells #[.int .i64 1, .slice A one.length c, .slice C many.length d, .int .i64 n] 54) := ⟨_, rfl⟩
  have k0 : Old w W0 := by rw [hW0]; exact (Keeps.refl _ _).alloc _
  have hb0 : W0.heap[w.heap.size]? = some (.cells #[.int .i64 1, .slice A one.length c, .slice C many.length d, .int .i64 n] 54 (0, 0)) := by rw [hW0]; exact heap_alloc_new _ _
  have x0 : W0.cell? ⟨w.heap.size, 0, none⟩ = some (.int .i64 1) := cell_of_heap hb0
  have x1 : W0.cell? ⟨w.heap.size, 1, none⟩ = some (.slice A one.length c) := cell_of_heap hb0
  have x2 : W0.cell? ⟨w.heap.size, 2, none⟩ = some (.slice C many.length d) := cell_of_heap hb0
  have z0 := k0.size
  have hgz : g < w.heap.size := h.net.lt g h.net.fg
  have htz : t < w.heap.size := h.tale.lt t h.tale.ft
  have he := h.rec_.log.end_
  have hnr := h.net.good.nr
  have hnl := h.rec_.log.nr
  obtain ⟨j', hap, hrec, hdn', hws'⟩ := rec_append h.rec_ hl (by omega)
  have happ := append_any W0 F S g vA vB vP q j A one.length c one (h.net.keep (k0.old _)) (hA.keep (k0.old _)) rfl (hTb.keep (k0.old (fun _ => True)) trivial) (by omega)
  rw [hap] at happ
  have i1 : ¬ (one.length : Int) > 65536 := by omega
  have hsm := h.net.good.end_
  obtain ⟨sz, hsz⟩ : ∃ sz, sz = 16 + sizeF R := ⟨_, rfl⟩
  obtain ⟨dn, hdn⟩ : ∃ dn, dn = dirtyN j.ws := ⟨_, rfl⟩
  have hdl : dn ≤ 4000000000000 * 1048576 := by
    have := dirtyN_le j.ws fun x hx => by have := h.net.good.wl x hx; omega
    omega
  obtain ⟨sz2, hsz2⟩ : ∃ sz2, sz2 = sz + (12 + one.length) := ⟨_, rfl⟩
  obtain ⟨dn2, hdn2⟩ : ∃ dn2, dn2 = dn + (12 + one.length) := ⟨_, rfl⟩
  have b1 : IntKind.i64.wrap (12 + (one.length : Int)) = 12 + (one.length : Int) := by rw [IntKind.wrap_i64]; omega
  have b2 : IntKind.i64.wrap ((sz : Int) + (12 + (one.length : Int))) = (sz2 : Int) := by rw [IntKind.wrap_i64]; omega
  have b3 : IntKind.i64.wrap ((dn : Int) + (12 + (one.length : Int))) = (dn2 : Int) := by rw [IntKind.wrap_i64]; omega
  have i2 : ¬ (sz2 : Int) > 1048576 := by omega
  have hRl : rq.length ≤ 100000 := by
    have h1 : R.length = rq.length := by rw [← h.recs]; simp
    omega
  have HSZ := hid (And.intro hsz (And.intro hsz2 (And.intro hdn hdn2)))
  clear hsz he hdn hsz2 hdn2 hnr hnl
  go_enter Tryd.func39, Tryd.ntmps39
  go_upto_region 1 with fail
  rw [← hW0]
  clear hW0
  go_wp2_with fail
  refine happ.mono ?_
  rintro e w1 ⟨rfl, F1, vP1, q1, hn1, hF1, k1⟩
  clear happ
  have z1 := k1.size
  have ht1 := (h.tale.keep (k0.old _)).keep (k1.mono fun k _ hk hf => h.apart k hf hk)
  have hF1t : ∀ k, F1 k → ¬ T k := fun k hk hT => by
    rcases hF1 k hk with hf | hf
    · exact h.apart k hf hT
    · have := h.tale.lt k hT; omega
  have hbk : Keeps (fun k => k = w.heap.size) W0 w1 := k1.mono fun k _ hk hf => by have := h.net.lt k hf; omega
  have x1 : w1.cell? ⟨w.heap.size, 1, none⟩ = some (.slice A one.length c) := (hbk.cell (p := ⟨w.heap.size, 1, none⟩) (lt_of_cell x1) rfl).trans x1
  clear x0 x2
  have ht1' : TaleM T w1 t uG uP uR gi [uR] pts rq sz dn := by rw [HSZ.out.1, HSZ.out.2.2.1]; exact ht1
  clear ht1
  obtain ⟨AR, cR, hvR, _, _⟩ := own_slice ht1'.r.row
  subst hvR
  have y3 : w1.cell? ⟨t, 3, none⟩ = some (.int .i64 (sz : Int)) := cell_of_heap ht1'.head
  have y2 : w1.cell? ⟨t, 2, none⟩ = some (.slice AR rq.length cR) := cell_of_heap ht1'.head
  have hA1 := (hA.keep (k0.old _)).keep (k1.mono fun k _ hk hf => hS k hk (hFB k hf))
  go_upto_region 9 with fail
  refine wp_region_tree (fun w' => w'.cell? ⟨t, 2, none⟩ = some (.slice AR rq.length cR) ∧ w'.cell? ⟨w.heap.size, 1, none⟩ = some (.slice A one.length c)) 10
    (.take 0 (.take 1 (.take 2 (.take 3 (.take 4 (.take 5 (.take 6 (.one 7 (.one 8 (.one 9 .tail)))))))))) (by kernel_rfl) (by kernel_rfl) ⟨y2, x1⟩ ?_
  iterate 7 (refine pt_take (v := ?_) (by rfl) (by first | rfl | kernel_rfl) (fun w' hS => ?_) ?_; rotate_left 1; (obtain ⟨s0, s1⟩ := hS; go_simp <;> (try with_reducible rfl)); (simp only [Act.put, List.setIfInBounds_toArray, List.set_cons_zero, List.set_cons_succ]))
  refine pt_one (by rfl) (loudly_of (by first | rfl | kernel_rfl) (fun K hK => ?_))
  have hcl := clone44_any w1.drew _ A one.length c one (hA1.keep (Keeps.refl _ _).drew) rfl (by omega)
  go_wp2_with (go_at_call 44; refine hcl.mono ?_)
  rintro e w2 ⟨vx, rfl, hvx, k2⟩
  clear hcl
  replace k2 := k2.ofDrew
  obtain ⟨Ax, cx, hvx', _, _⟩ := hvx.slice
  subst hvx'
  have ht2 := ht1'.keep (k2.old _)
  refine hK _ _ ⟨(k2.cell (p := ⟨t, 2, none⟩) (lt_of_cell y2) trivial).trans y2, (k2.cell (p := ⟨w.heap.size, 1, none⟩) (lt_of_cell x1) trivial).trans x1⟩ ?_
  clear hK K
  refine pt_one (by rfl) (loudly_of (by first | rfl | kernel_rfl) (fun K hK => ?_))
  go_wp2
  obtain ⟨w3, hw3⟩ : ∃ W, W = w2.alloc (.cells #[.slice Ax one.length cx] 22) := ⟨_, rfl⟩
  rw [← hw3]
  have K23 : Old w2 w3 := by rw [hw3]; exact (Keeps.refl _ _).alloc _
  have hb3 : w3.heap[w2.heap.size]? = some (.cells #[.slice Ax one.length cx] 22 (0, 0)) := by rw [hw3]; exact heap_alloc_new _ _
  clear hw3
  have K13 := k2.trans' K23
  refine hK _ _ ⟨(K13.cell (p := ⟨t, 2, none⟩) (lt_of_cell y2) trivial).trans y2, (K13.cell (p := ⟨w.heap.size, 1, none⟩) (lt_of_cell x1) trivial).trans x1⟩ ?_
  clear hK K
  have ht3 := ht2.keep (K23.old _)
  have hrow3 := ht3.r.row
  refine pt_one (by rfl) (loudly_of (by first | rfl | kernel_rfl) (fun K hK => ?_))
  refine wp_append_ex w3 _ _ 35 22 (by rfl) Tryd.underlying35 info22 (by rfl) (by omega) (by rfl) hrow3 (some ⟨w2.heap.size, 0, none⟩) 1 1 [.slice Ax one.length cx] (by rfl) (by rfl) (fun _ => ⟨_, rfl, World.news_of_block hb3⟩) (one_one rfl) (by omega) (by unfold maxLen; omega) ?_
  intro v4 w4 hown4 hgrow4 hat4
  simp only [Act.put, List.setIfInBounds_toArray, List.set_cons_zero, List.set_cons_succ]
  have K34 : Keeps (fun k => (Value.slice AR rq.length cR).ownBlock ≠ some k) w3 w4 := (Keeps.refl _ w3).grown hgrow4 (fun k _ h hn => hn h)
  have hh4 := K34.heap ht3.head ht3.apart.2.2.1
  have u2 : w4.cell? ⟨t, 2, none⟩ = some (.slice AR rq.length cR) := cell_of_heap hh4
  have uf : ∀ i, w4.frozen? ⟨t, i, none⟩ = false := fun i => frozen_of_heap hh4
  have hx1 : w3.cell? ⟨w.heap.size, 1, none⟩ = some (.slice A one.length c) := (K13.cell (p := ⟨w.heap.size, 1, none⟩) (lt_of_cell x1) trivial).trans x1
  have hwT : ∀ k, T k → k < w.heap.size := h.tale.lt
  have ux : w4.cell? ⟨w.heap.size, 1, none⟩ = some (.slice A one.length c) := (K34.cell (p := ⟨w.heap.size, 1, none⟩) (lt_of_cell hx1) (fun e => by have h0 : w.heap.size < w.heap.size := hwT _ (ht3.r.foot _ e); omega)).trans hx1
  have ht4 := ht3.pushR (x := (one, .slice Ax one.length cx)) (hvx.keep (K23.old _)) K34 hown4 hat4
  obtain ⟨A4, c4', hv4, _, _⟩ := own_slice hown4
  subst hv4
  refine hK _ _ ⟨u2, ux⟩ ?_
  clear hK K
  refine pt_tail (by rfl) ?_
  clear y2 y3 x1 hx1 ht3 ht2
  go_wp2
  refine NoPanic.normal ?_
  have u3 : w4.cell? ⟨t, 3, none⟩ = some (.int .i64 (sz : Int)) := cell_of_heap hh4
  have u4 : w4.cell? ⟨t, 4, none⟩ = some (.int .i64 (dn : Int)) := cell_of_heap hh4
  obtain ⟨W5, hW5⟩ : ∃ W, W = ((w4.setCell ⟨t, 2, none⟩ (.slice A4 (rq.length + 1) c4')).setCell ⟨t, 3, none⟩ (.int .i64 (sz2 : Int))).setCell ⟨t, 4, none⟩ (.int .i64 (dn2 : Int)) := ⟨_, rfl⟩
  have ht5 := (ht4.setInt (size' := sz2) (written' := dn) (.inl ⟨rfl, rfl, rfl⟩)).setInt (size' := sz2) (written' := dn2) (.inr ⟨rfl, rfl, rfl⟩)
  have k5 : Keeps (fun k => ¬ T k) w1 W5 := by
    rw [hW5]
    exact ((((K13.old _).trans (K34.mono fun k _ hk e => hk (ht1'.r.foot k e)) fun _ _ h => h).setCell (fun _ hk => hk h.tale.ft) _).setCell (fun _ hk => hk h.tale.ft) _).setCell (fun _ hk => hk h.tale.ft) _
  rw [← hW5] at ht5
  have hno := note_any W5 _ t uG uP _ _ gi pts _ sz2 dn2 ht5 (by omega) (by omega)
  have hz13 := K13.size
  have hz5 := k5.size
  have hT4 : ∀ k, (T k ∨ ((w1.drew.heap.size ≤ k) ∧ k < w3.heap.size) ∨ (Value.slice A4 (rq.length + 1) c4').ownBlock = some k) → T k ∨ w1.heap.size ≤ k := fun k hk => by
    rcases hk with hk | hk | hk
    · exact .inl hk
    · exact .inr hk.1
    · rcases hat4 with e | e
      · rw [e] at hk; exact .inl (ht1'.r.foot k hk)
      · rw [e] at hk; injection hk with hk; right; omega
  have HT4 := hid hT4
  have HFL := hid hn1.lt
  have HN5 := hid (hn1.keep (k5.mono fun k _ hk => hF1t k hk))
  clear hT4 hat4 ht4 ht5 hn1 hown4 hgrow4 hrow3 K34 K23 k2
  go_upto_region 12 with fail
  rw [← hW5]
  clear hW5
  go_wp2_with fail
  refine hno.mono ?_
  rintro e w6 ⟨rfl, T6, uG6, uP6, ht6, hT6, k6⟩
  clear hno
  have hz6 := k6.size
  have hF4 : ∀ k, F1 k → ¬ (T k ∨ ((w1.drew.heap.size ≤ k) ∧ k < w3.heap.size) ∨ (Value.slice A4 (rq.length + 1) c4').ownBlock = some k) := fun k hk hT => by
    rcases HT4.out k hT with h | h
    · exact hF1t k hk h
    · have := HFL.out k hk; omega
  have hn6 := HN5.out.keep (k6.mono fun k _ hk => hF4 k hk)
  go_wp2
  go_ret
  obtain ⟨hsz, hsz2, hdn, hdn2⟩ := HSZ.out
  have HTJ : TJ F1 T6 w6 g t vA vB vP1 q1 uG6 uP6 (.slice A4 (rq.length + 1) c4') gi (pts ++ [⟨gi.length, (rq ++ [(one, Value.slice Ax one.length cx)]).length, dn2⟩]) (rq ++ [(one, .slice Ax one.length cx)]) j' R0 (rest ++ [(R ++ [one], dirtyN j.ws + (12 + one.length))]) (R ++ [one]) := by
    refine ⟨hn6, ?_, by rw [List.map_append, h.recs]; rfl, ?_, fun k hk hT => ?_, hrec⟩
    · have e1 : 16 + sizeF (R ++ [one]) = sz2 := by rw [sizeF_push]; omega
      have e2 : dirtyN j'.ws = dn2 := by omega
      rw [e1, e2]
      exact ht6
    · have := (h.hist.grow (E := [one])).push (ptOK_last (gi := gi) (rq := rq ++ [(one, .slice Ax one.length cx)]) (R := R ++ [one]) (by rw [List.map_append, h.recs]; rfl) dn2)
      rw [hdn2, hdn] at this
      rw [hdn2, hdn]
      exact this
    · rcases hT6 k hT with h' | h'
      · exact hF4 k hk h'
      · have := HFL.out k hk; omega
  refine post_tell HTJ (by unfold stepJ; rw [if_pos rfl, hap]) (by omega) (by omega) (by simp; omega) (fun k hk => ?_) (fun k hk => ?_) ?_
  · rcases hF1 k hk with hf | hf
    · exact .inl (hFB k hf)
    · right; omega
  · rcases hT6 k hk with h' | h'
    · rcases HT4.out k h' with h' | h'
      · exact .inl (hTB k h')
      · right; omega
    · right; omega
  · refine (((k0.old _).trans' (k1.mono fun k _ hk hf => hk (hFB k hf))).trans' (k5.mono fun k _ hk hf => hk (hTB k hf))).trans k6 fun k hk hb hT => ?_
    rcases HT4.out k hT with h' | h'
    · exact hb (hTB k h')
    · omega

/-- ahead of a round in which a Rewrite's records are told -/
def InTell (w1 : World) (T : Nat → Prop) (t : Nat) (vG uP : Value) (gi : List (Recs × Value)) (pts : List Pt) (many : Recs) (sz dn k : Nat) (wr : World) : Prop :=
  ∃ (Tk : Nat → Prop) (v : Value) (rq : List (List UInt8 × Value)), TaleM Tk wr t vG uP v gi [.slice none 0 0] pts rq sz dn ∧ rq.map (·.1) = many.take k ∧ (∀ k, Tk k → T k ∨ w1.heap.size ≤ k) ∧ Keeps (fun k => ¬ T k) w1 wr


set_option maxRecDepth 10000 in
set_option maxHeartbeats 8000000 in
theorem tell_rlong (w : World) (F T : Nat → Prop) (g t : Nat) (vA vB vP : Value) (q : List (Wr × Value)) (uG uP uR : Value) (gi : List (Recs × Value)) (pts : List Pt) (rq : List (List UInt8 × Value)) (j : Jn) (R0 : Recs) (rest : List (Recs × Nat)) (R : Recs)
    (h : TJ F T w g t vA vB vP q uG uP uR gi pts rq j R0 rest R) (N : Nat) (B S : Nat → Prop) (h1 : j.ws.length ≤ N) (h2 : gi.length ≤ N) (h3 : pts.length ≤ N) (hN : N ≤ 2900000000000) (hFB : ∀ k, F k → B k) (hTB : ∀ k, T k → B k)
    (n : Int) (A C : Option Addr) (c d : Nat) (one : List UInt8) (many : Recs) (hC : Rcs S w C many) (hm : many.length ≤ 6000000000000) (hS : ∀ k, S k → ¬ B k) (hTb : Tab w) (hl : ∃ r ∈ many, 65536 < r.length) :
    Calls Tryd.prog 39 #[.pointer (some ⟨t, 0, none⟩), .pointer (some ⟨g, 0, none⟩), .agg #[.int .i64 2, .slice A one.length c, .slice C many.length d, .int .i64 n]] w (PostTell N B w g t j 2 one many) := by
  obtain ⟨W0, hW0⟩ : ∃ W, W = w.alloc (.cells #[.int .i64 2, .slice A one.length c, .slice C many.length d, .int .i64 n] 54) := ⟨_, rfl⟩
  have k0 : Old w W0 := by rw [hW0]; exact (Keeps.refl _ _).alloc _
  have hb0 : W0.heap[w.heap.size]? = some (.cells #[.int .i64 2, .slice A one.length c, .slice C many.length d, .int .i64 n] 54 (0, 0)) := by rw [hW0]; exact heap_alloc_new _ _
  have x0 : W0.cell? ⟨w.heap.size, 0, none⟩ = some (.int .i64 2) := cell_of_heap hb0
  have x1 : W0.cell? ⟨w.heap.size, 1, none⟩ = some (.slice A one.length c) := cell_of_heap hb0
  have x2 : W0.cell? ⟨w.heap.size, 2, none⟩ = some (.slice C many.length d) := cell_of_heap hb0
  have z0 := k0.size
  have hgz : g < w.heap.size := h.net.lt g h.net.fg
  have htz : t < w.heap.size := h.tale.lt t h.tale.ft
  have hap : rewriteJ j many = (2, j) := by rw [rewriteJ, if_pos hl]
  have hsi : sizeI many = -1 := if_pos hl
  have happ := rewrite_any W0 F S g vA vB vP q j C many.length d many (h.net.keep (k0.old _)) (hC.keep (k0.old _)) (fun k hs hf => hS k hs (hFB k hf)) rfl (hTb.keep (k0.old (fun _ => True)) trivial) (by omega)
  rw [hap] at happ
  have HL := hid hl
  clear hl
  go_enter Tryd.func39, Tryd.ntmps39
  go_upto_region 1 with fail
  rw [← hW0]
  clear hW0
  go_wp2_with fail
  refine happ.mono ?_
  rintro e w1 ⟨rfl, F1, vP1, q1, hn1, hF1, k1⟩
  clear happ
  have z1 := k1.size
  have ht1 := (h.tale.keep (k0.old _)).keep (k1.mono fun k _ hk hf => h.apart k hf hk)
  have hF1t : ∀ k, F1 k → ¬ T k := fun k hk hT => by
    rcases hF1 k hk with hf | hf
    · exact h.apart k hf hT
    · have := h.tale.lt k hT; omega
  have hbk : Keeps (fun k => k = w.heap.size) W0 w1 := k1.mono fun k _ hk hf => by have := h.net.lt k hf; omega
  have x2 : w1.cell? ⟨w.heap.size, 2, none⟩ = some (.slice C many.length d) := (hbk.cell (p := ⟨w.heap.size, 2, none⟩) (lt_of_cell x2) rfl).trans x2
  clear x0 x1
  have hC1 := (hC.keep (k0.old _)).keep (k1.mono fun k _ hk hf => hS k hk (hFB k hf))
  have hsg := size_gen w1 S C d many hC1 hm
  rw [hsi] at hsg
  go_wp2_with fail
  refine hsg.mono ?_
  rintro e w1' ⟨rfl, rfl⟩
  clear hsg
  go_wp2
  go_ret
  exact post_tell (F := F1) (T := T) ⟨hn1, ht1, h.recs, h.hist, hF1t, h.rec_⟩ (by unfold stepJ; rw [if_neg (by decide), if_pos rfl, hap]) (by omega) (by omega) (by omega)
    (fun k hk => by
      rcases hF1 k hk with hf | hf
      · exact .inl (hFB k hf)
      · right; omega) (fun k hk => .inl (hTB k hk)) ((k0.old _).trans' (k1.mono fun k _ hk hf => hk (hFB k hf)))


set_option maxRecDepth 10000 in
set_option maxHeartbeats 8000000 in
theorem tell_rfull (w : World) (F T : Nat → Prop) (g t : Nat) (vA vB vP : Value) (q : List (Wr × Value)) (uG uP uR : Value) (gi : List (Recs × Value)) (pts : List Pt) (rq : List (List UInt8 × Value)) (j : Jn) (R0 : Recs) (rest : List (Recs × Nat)) (R : Recs)
    (h : TJ F T w g t vA vB vP q uG uP uR gi pts rq j R0 rest R) (N : Nat) (B S : Nat → Prop) (h1 : j.ws.length ≤ N) (h2 : gi.length ≤ N) (h3 : pts.length ≤ N) (hN : N ≤ 2900000000000) (hFB : ∀ k, F k → B k) (hTB : ∀ k, T k → B k)
    (n : Int) (A C : Option Addr) (c d : Nat) (one : List UInt8) (many : Recs) (hC : Rcs S w C many) (hm : many.length ≤ 6000000000000) (hS : ∀ k, S k → ¬ B k) (hTb : Tab w) (hl : ¬ ∃ r ∈ many, 65536 < r.length) (hf : 1048576 < 16 + sizeF many) :
    Calls Tryd.prog 39 #[.pointer (some ⟨t, 0, none⟩), .pointer (some ⟨g, 0, none⟩), .agg #[.int .i64 2, .slice A one.length c, .slice C many.length d, .int .i64 n]] w (PostTell N B w g t j 2 one many) := by
  obtain ⟨W0, hW0⟩ : ∃ W, W = w.alloc (.cells #[.int .i64 2, .slice A one.length c, .slice C many.length d, .int .i64 n] 54) := ⟨_, rfl⟩
  have k0 : Old w W0 := by rw [hW0]; exact (Keeps.refl _ _).alloc _
  have hb0 : W0.heap[w.heap.size]? = some (.cells #[.int .i64 2, .slice A one.length c, .slice C many.length d, .int .i64 n] 54 (0, 0)) := by rw [hW0]; exact heap_alloc_new _ _
  have x0 : W0.cell? ⟨w.heap.size, 0, none⟩ = some (.int .i64 2) := cell_of_heap hb0
  have x1 : W0.cell? ⟨w.heap.size, 1, none⟩ = some (.slice A one.length c) := cell_of_heap hb0
  have x2 : W0.cell? ⟨w.heap.size, 2, none⟩ = some (.slice C many.length d) := cell_of_heap hb0
  have z0 := k0.size
  have hgz : g < w.heap.size := h.net.lt g h.net.fg
  have htz : t < w.heap.size := h.tale.lt t h.tale.ft
  have hap : rewriteJ j many = (4, j) := by rw [rewriteJ, if_neg hl, if_pos hf]
  obtain ⟨s2, hs2⟩ : ∃ s2, s2 = 16 + sizeF many := ⟨_, rfl⟩
  have hsi : sizeI many = (s2 : Int) := by rw [hs2]; exact if_neg hl
  have happ := rewrite_any W0 F S g vA vB vP q j C many.length d many (h.net.keep (k0.old _)) (hC.keep (k0.old _)) (fun k hs hf => hS k hs (hFB k hf)) rfl (hTb.keep (k0.old (fun _ => True)) trivial) (by omega)
  rw [hap] at happ
  have HL := hid hl
  have HS2 := hid hs2
  have i1 : ¬ (s2 : Int) < 0 := by omega
  have i2 : (s2 : Int) > 1048576 := by omega
  clear hl hs2
  go_enter Tryd.func39, Tryd.ntmps39
  go_upto_region 1 with fail
  rw [← hW0]
  clear hW0
  go_wp2_with fail
  refine happ.mono ?_
  rintro e w1 ⟨rfl, F1, vP1, q1, hn1, hF1, k1⟩
  clear happ
  have z1 := k1.size
  have ht1 := (h.tale.keep (k0.old _)).keep (k1.mono fun k _ hk hf => h.apart k hf hk)
  have hF1t : ∀ k, F1 k → ¬ T k := fun k hk hT => by
    rcases hF1 k hk with hf | hf
    · exact h.apart k hf hT
    · have := h.tale.lt k hT; omega
  have hbk : Keeps (fun k => k = w.heap.size) W0 w1 := k1.mono fun k _ hk hf => by have := h.net.lt k hf; omega
  have x2 : w1.cell? ⟨w.heap.size, 2, none⟩ = some (.slice C many.length d) := (hbk.cell (p := ⟨w.heap.size, 2, none⟩) (lt_of_cell x2) rfl).trans x2
  clear x0 x1
  have hC1 := (hC.keep (k0.old _)).keep (k1.mono fun k _ hk hf => hS k hk (hFB k hf))
  have hsg := size_gen w1 S C d many hC1 hm
  rw [hsi] at hsg
  go_wp2_with fail
  refine hsg.mono ?_
  rintro e w1' ⟨rfl, rfl⟩
  clear hsg
  go_wp2
  go_ret
  exact post_tell (F := F1) (T := T) ⟨hn1, ht1, h.recs, h.hist, hF1t, h.rec_⟩ (by unfold stepJ; rw [if_neg (by decide), if_pos rfl, hap]) (by omega) (by omega) (by omega)
    (fun k hk => by
      rcases hF1 k hk with hf | hf
      · exact .inl (hFB k hf)
      · right; omega) (fun k hk => .inl (hTB k hk)) ((k0.old _).trans' (k1.mono fun k _ hk hf => hk (hFB k hf)))


set_option maxRecDepth 10000 in
set_option maxHeartbeats 8000000 in
theorem tell_rewrite (w : World) (F T : Nat → Prop) (g t : Nat) (vA vB vP : Value) (q : List (Wr × Value)) (uG uP uR : Value) (gi : List (Recs × Value)) (pts : List Pt) (rq : List (List UInt8 × Value)) (j : Jn) (R0 : Recs) (rest : List (Recs × Nat)) (R : Recs)
    (h : TJ F T w g t vA vB vP q uG uP uR gi pts rq j R0 rest R) (N : Nat) (B S : Nat → Prop) (h1 : j.ws.length ≤ N) (h2 : gi.length ≤ N) (h3 : pts.length ≤ N) (hN : N ≤ 2900000000000) (hFB : ∀ k, F k → B k) (hTB : ∀ k, T k → B k)
    (n : Int) (A C : Option Addr) (c d : Nat) (one : List UInt8) (many : Recs) (hC : Rcs S w C many) (hm : many.length ≤ 6000000000000) (hS : ∀ k, S k → ¬ B k) (hTb : Tab w) (hl : ∀ r ∈ many, r.length ≤ 65536) (hf : 16 + sizeF many ≤ 1048576) :
    Calls Tryd.prog 39 #[.pointer (some ⟨t, 0, none⟩), .pointer (some ⟨g, 0, none⟩), .agg #[.int .i64 2, .slice A one.length c, .slice C many.length d, .int .i64 n]] w (PostTell N B w g t j 2 one many) := by
  obtain ⟨W0, hW0⟩ : ∃ W, W = w.alloc (.cells #[.int .i64 2, .slice A one.length c, .slice C many.length d, .int .i64 n] 54) := ⟨_, rfl⟩
  have k0 : Old w W0 := by rw [hW0]; exact (Keeps.refl _ _).alloc _
  have hb0 : W0.heap[w.heap.size]? = some (.cells #[.int .i64 2, .slice A one.length c, .slice C many.length d, .int .i64 n] 54 (0, 0)) := by rw [hW0]; exact heap_alloc_new _ _
  have x0 : W0.cell? ⟨w.heap.size, 0, none⟩ = some (.int .i64 2) := cell_of_heap hb0
  have x1 : W0.cell? ⟨w.heap.size, 1, none⟩ = some (.slice A one.length c) := cell_of_heap hb0
  have x2 : W0.cell? ⟨w.heap.size, 2, none⟩ = some (.slice C many.length d) := cell_of_heap hb0
  have z0 := k0.size
  have hgz : g < w.heap.size := h.net.lt g h.net.fg
  have htz : t < w.heap.size := h.tale.lt t h.tale.ft
  obtain ⟨j', hap, hrec, hdn', hws'⟩ := rec_rewrite h.rec_ hl hf
  obtain ⟨s2, hs2⟩ : ∃ s2, s2 = 16 + sizeF many := ⟨_, rfl⟩
  have hmn := sizeF_num many
  have hsi : sizeI many = (s2 : Int) := by rw [hs2]; exact sizeI_ok hl
  have happ := rewrite_any W0 F S g vA vB vP q j C many.length d many (h.net.keep (k0.old _)) (hC.keep (k0.old _)) (fun k hs hf => hS k hs (hFB k hf)) rfl (hTb.keep (k0.old (fun _ => True)) trivial) (by omega)
  rw [hap] at happ
  obtain ⟨sz, hsz⟩ : ∃ sz, sz = 16 + sizeF R := ⟨_, rfl⟩
  obtain ⟨dn, hdn⟩ : ∃ dn, dn = dirtyN j.ws := ⟨_, rfl⟩
  have hdl : dn ≤ 4000000000000 * 1048576 := by
    have := dirtyN_le j.ws fun x hx => by have := h.net.good.wl x hx; omega
    omega
  obtain ⟨dn2, hdn2⟩ : ∃ dn2, dn2 = dn + s2 := ⟨_, rfl⟩
  have b3 : IntKind.i64.wrap ((dn : Int) + (s2 : Int)) = (dn2 : Int) := by rw [IntKind.wrap_i64]; omega
  have hRl : rq.length ≤ 100000 := by
    have h1 : R.length = rq.length := by rw [← h.recs]; simp
    have h2 := h.net.good.nr
    have h3 := h.net.good.end_
    have h4 := h.rec_.log.nr
    omega
  have HSZ := hid (And.intro hsz (And.intro hs2 (And.intro hdn hdn2)))
  have HL := hid hl
  have i1 : ¬ (s2 : Int) < 0 := by omega
  have i2 : ¬ (s2 : Int) > 1048576 := by omega
  have hml : many.length ≤ 100000 := by omega
  clear hl hs2 hsz hdn hdn2 hmn hf
  go_enter Tryd.func39, Tryd.ntmps39
  go_upto_region 1 with fail
  rw [← hW0]
  clear hW0
  go_wp2_with fail
  refine happ.mono ?_
  rintro e w1 ⟨rfl, F1, vP1, q1, hn1, hF1, k1⟩
  clear happ
  have z1 := k1.size
  have ht1 := (h.tale.keep (k0.old _)).keep (k1.mono fun k _ hk hf => h.apart k hf hk)
  have hF1t : ∀ k, F1 k → ¬ T k := fun k hk hT => by
    rcases hF1 k hk with hf | hf
    · exact h.apart k hf hT
    · have := h.tale.lt k hT; omega
  have hbk : Keeps (fun k => k = w.heap.size) W0 w1 := k1.mono fun k _ hk hf => by have := h.net.lt k hf; omega
  have x2 : w1.cell? ⟨w.heap.size, 2, none⟩ = some (.slice C many.length d) := (hbk.cell (p := ⟨w.heap.size, 2, none⟩) (lt_of_cell x2) rfl).trans x2
  clear x0 x1
  have hC1 := (hC.keep (k0.old _)).keep (k1.mono fun k _ hk hf => hS k hk (hFB k hf))
  have hsg := size_gen w1 S C d many hC1 hm
  rw [hsi] at hsg
  go_wp2_with fail
  refine hsg.mono ?_
  rintro e w1' ⟨rfl, rfl⟩
  clear hsg
  have ht1' : TaleM T w1 t uG uP uR gi [uR] pts rq sz dn := by rw [HSZ.out.1, HSZ.out.2.2.1]; exact ht1
  clear ht1
  have kw : Old w1 (w1.alloc (.cells #[.slice none 0 0] 35)) := (Keeps.refl _ _).alloc _
  have hbb : (w1.alloc (.cells #[.slice none 0 0] 35)).heap[w1.heap.size]? = some (.cells #[.slice none 0 0] 35 (0, 0)) := heap_alloc_new _ _
  have hx2 := (kw.cell (p := ⟨w.heap.size, 2, none⟩) (lt_of_cell x2) trivial).trans x2
  have ha := ht1'.keep (kw.old _)
  obtain ⟨Wa, hWa⟩ : ∃ W, W = w1.alloc (.cells #[.slice none 0 0] 35) := ⟨_, rfl⟩
  rw [← hWa] at kw hbb ha hx2
  have hra := ha.g
  have hwT : ∀ k, T k → k < w.heap.size := h.tale.lt
  obtain ⟨AG, cG, hvG, _, _⟩ := own_slice hra
  rw [show gi.length + [uR].length = gi.length + 1 by rfl] at hvG hra
  subst hvG
  have y0 : w1.cell? ⟨t, 0, none⟩ = some (.slice AG (gi.length + 1) cG) := cell_of_heap ht1'.head
  go_upto_region 21 with fail
  go_upto_region 23 with (at_builtin; rw [← hWa]; refine wpList_append_ex _ (by rfl) _ _ 57 35 (by rfl) Tryd.underlying57 info35 (by rfl) (by omega) (by rfl) hra (some ⟨w1.heap.size, 0, none⟩) 1 1 [.slice none 0 0] (by rfl) (by rfl) (fun _ => ⟨_, rfl, World.news_of_block hbb⟩) (one_one rfl) (by omega) (by unfold maxLen; omega) ?_; intro v1 Wb hown1 hgrow1 hat1; obtain ⟨A1, c1, hv1, _, _⟩ := own_slice hown1; have Ka : Keeps (fun k => (Value.slice AG (gi.length + 1) cG).ownBlock ≠ some k) Wa Wb := (Keeps.refl _ Wa).grown hgrow1 (fun k _ h hn => hn h); have hha := Ka.heap ha.head ha.apart.1; have u0 : Wb.cell? ⟨t, 0, none⟩ = some (.slice AG (gi.length + 1) cG) := cell_of_heap hha; have u2 : Wb.cell? ⟨t, 2, none⟩ = some uR := cell_of_heap hha; have uf : ∀ i, Wb.frozen? ⟨t, i, none⟩ = false := fun i => frozen_of_heap hha; have ux : Wb.cell? ⟨w.heap.size, 2, none⟩ = some (.slice C many.length d) := (Ka.cell (p := ⟨w.heap.size, 2, none⟩) (lt_of_cell hx2) (fun e => by have h0 : w.heap.size < w.heap.size := hwT _ (ha.gf _ e); omega)).trans hx2; have hc1 := ha.pushG Ka hown1 hat1; subst hv1)
  have hyw := kw.size
  obtain ⟨Wc, hWc⟩ : ∃ W, W = (Wb.setCell ⟨t, 0, none⟩ (.slice A1 (gi.length + 1 + 1) c1)).setCell ⟨t, 2, none⟩ (.slice none 0 0) := ⟨_, rfl⟩
  obtain ⟨gi2, hg2⟩ : ∃ gi2, gi2 = gi ++ [(rq.map (·.1), uR)] := ⟨_, rfl⟩
  have hc2 := TaleM.newR (y := .slice none 0 0) hc1 (by omega)
  rw [← hWc, ← hg2] at hc2
  have kc : Keeps (fun k => ¬ T k) w1 Wc := by
    rw [hWc]
    exact (((kw.old _).trans (Ka.mono fun k _ hk e => hk (ha.gf k e)) fun _ _ h => h).setCell (fun _ hk => hk h.tale.ft) _).setCell (fun _ hk => hk h.tale.ft) _
  have HS := hid (show InTell w1 T t (.slice A1 (gi.length + 1 + 1) c1) uP gi2 pts many sz dn 0 Wc from ⟨_, _, _, hc2, by simp, fun k hk => by
    rcases hk with hk | hk
    · exact .inl hk
    · rcases hat1 with e | e
      · rw [e] at hk; exact .inl (ha.gf k hk)
      · rw [e] at hk; injection hk with hk; right; omega, kc⟩)
  have HG2 := hid hg2
  have hwW : ¬ T w.heap.size := fun e => by have := hwT _ e; omega
  clear hc2 kc hc1 ux uf u2 u0 hha Ka hat1 hgrow1 hown1 ha hx2 hbb kw y0 hg2 hra hyw
  rw [show (Wb.setCell ⟨t, 0, none⟩ (.slice A1 (gi.length + 1 + 1) c1)).setCell ⟨t, 2, none⟩ (.slice none 0 0) = Wc from by rw [hWc]]
  clear hWc hWa
  go_wp2
  go_loopw [11] (fun i wr => ∃ k : Nat, i = .int .i64 k ∧ k ≤ many.length ∧ Hid (InTell w1 T t (.slice A1 (gi.length + 1 + 1) c1) uP gi2 pts many sz dn k wr)) (fun i _ => many.length - (intOf i).toNat)
  case atStart => exact ⟨0, rfl, Nat.zero_le _, HS⟩
  case round =>
    clear HS
    obtain ⟨k, rfl, hk, hin⟩ := hrel
    obtain ⟨Tk, v, rqk, htk, hrq, hTk, hKk⟩ := hin.out
    clear hin
    have hzk := hKk.size
    have hxk : wr.cell? ⟨w.heap.size, 2, none⟩ = some (.slice C many.length d) := (hKk.cell (p := ⟨w.heap.size, 2, none⟩) (lt_of_cell x2) hwW).trans x2
    by_cases hlt : k < many.length
    · obtain ⟨b, o, A', c', rfl, hSb, h0, h1', h2'⟩ := (hC1.keep (hKk.mono fun k _ hs hT => hS k hs (hTB k hT))).at_ hlt
      have i3 : (0 : Int) ≤ (k : Int) := by omega
      have i4 : (k : Int) < (many.length : Int) := by omega
      have HT := hid (show many.take (k + 1) = many.take k ++ [many[k]] from List.take_succ_eq_append_getElem hlt)
      have hrl : many[k].length ≤ 65536 := HL.out _ (List.getElem_mem hlt)
      have hrn : rqk.length = k := by
        have h1 := congrArg List.length hrq
        rw [List.length_map, List.length_take] at h1
        omega
      have HRQ := hid hrq
      have HRN := hid hrn
      have hrn' : rqk.length ≤ 100000 := by omega
      clear hrq hrn
      generalize many[k] = rc at *
      obtain ⟨AR, cR, hvR, _, _⟩ := own_slice htk.r.row
      subst hvR
      have y2 : wr.cell? ⟨t, 2, none⟩ = some (.slice AR rqk.length cR) := cell_of_heap htk.head
      go_upto_region 26 with fail
      refine wp_region_tree (fun w' => w'.cell? ⟨t, 2, none⟩ = some (.slice AR rqk.length cR) ∧ w'.cell? ⟨w.heap.size, 2, none⟩ = some (.slice (some ⟨b, o, none⟩) many.length d) ∧ w'.cell? ⟨b, o + k, none⟩ = some (.slice A' rc.length c')) 13
        (.take 0 (.take 1 (.take 2 (.take 3 (.take 4 (.take 5 (.take 6 (.take 7 (.take 8 (.take 9 (.one 10 (.one 11 (.one 12 .tail))))))))))))) (by kernel_rfl) (by kernel_rfl) ⟨y2, hxk, h0⟩ ?_
      iterate 10 (refine pt_take (v := ?_) (by rfl) (by first | rfl | kernel_rfl) (fun w' hS => ?_) ?_; rotate_left 1; (obtain ⟨s0, s1, s2⟩ := hS; go_simp <;> (try with_reducible rfl)); (simp only [Act.put, List.setIfInBounds_toArray, List.set_cons_zero, List.set_cons_succ]))
      refine pt_one (by rfl) (loudly_of (by first | rfl | kernel_rfl) (fun K hK => ?_))
      have hcl := clone44_any wr.drew _ A' rc.length c' rc (h2'.keep (Keeps.refl _ _).drew) rfl (by omega)
      go_wp2_with (go_at_call 44; refine hcl.mono ?_)
      rintro e w2 ⟨vx, rfl, hvx, k2⟩
      clear hcl
      replace k2 := k2.ofDrew
      obtain ⟨Ax, cx, hvx', _, _⟩ := hvx.slice
      subst hvx'
      have ht2 := htk.keep (k2.old _)
      refine hK _ _ ⟨(k2.cell (p := ⟨t, 2, none⟩) (lt_of_cell y2) trivial).trans y2, (k2.cell (p := ⟨w.heap.size, 2, none⟩) (lt_of_cell hxk) trivial).trans hxk, (k2.cell (p := ⟨b, o + k, none⟩) (lt_of_cell h0) trivial).trans h0⟩ ?_
      clear hK K
      refine pt_one (by rfl) (loudly_of (by first | rfl | kernel_rfl) (fun K hK => ?_))
      go_wp2
      obtain ⟨w3, hw3⟩ : ∃ W, W = w2.alloc (.cells #[.slice Ax rc.length cx] 22) := ⟨_, rfl⟩
      rw [← hw3]
      have K23 : Old w2 w3 := by rw [hw3]; exact (Keeps.refl _ _).alloc _
      have hb3 : w3.heap[w2.heap.size]? = some (.cells #[.slice Ax rc.length cx] 22 (0, 0)) := by rw [hw3]; exact heap_alloc_new _ _
      clear hw3
      have K13 := k2.trans' K23
      refine hK _ _ ⟨(K13.cell (p := ⟨t, 2, none⟩) (lt_of_cell y2) trivial).trans y2, (K13.cell (p := ⟨w.heap.size, 2, none⟩) (lt_of_cell hxk) trivial).trans hxk, (K13.cell (p := ⟨b, o + k, none⟩) (lt_of_cell h0) trivial).trans h0⟩ ?_
      clear hK K
      have ht3 := ht2.keep (K23.old _)
      have hrow3 := ht3.r.row
      refine pt_one (by rfl) (loudly_of (by first | rfl | kernel_rfl) (fun K hK => ?_))
      refine wp_append_ex w3 _ _ 35 22 (by rfl) Tryd.underlying35 info22 (by rfl) (by omega) (by rfl) hrow3 (some ⟨w2.heap.size, 0, none⟩) 1 1 [.slice Ax rc.length cx] (by rfl) (by rfl) (fun _ => ⟨_, rfl, World.news_of_block hb3⟩) (one_one rfl) (by omega) (by unfold maxLen; omega) ?_
      intro v4 w4 hown4 hgrow4 hat4
      simp only [Act.put, List.setIfInBounds_toArray, List.set_cons_zero, List.set_cons_succ]
      have K34 : Keeps (fun k => (Value.slice AR rqk.length cR).ownBlock ≠ some k) w3 w4 := (Keeps.refl _ w3).grown hgrow4 (fun k _ h hn => hn h)
      have hh4 := K34.heap ht3.head ht3.apart.2.2.1
      have u2 : w4.cell? ⟨t, 2, none⟩ = some (.slice AR rqk.length cR) := cell_of_heap hh4
      have uf : ∀ i, w4.frozen? ⟨t, i, none⟩ = false := fun i => frozen_of_heap hh4
      have nT : ∀ k, k < w1.heap.size → ¬ T k → ¬ (Value.slice AR rqk.length cR).ownBlock = some k := fun k hk hn e => by
        rcases hTk k (ht3.r.foot k e) with h | h
        · exact hn h
        · omega
      have hx3 : w3.cell? ⟨w.heap.size, 2, none⟩ = some (.slice (some ⟨b, o, none⟩) many.length d) := (K13.cell (p := ⟨w.heap.size, 2, none⟩) (lt_of_cell hxk) trivial).trans hxk
      have ux : w4.cell? ⟨w.heap.size, 2, none⟩ = some (.slice (some ⟨b, o, none⟩) many.length d) := (K34.cell (p := ⟨w.heap.size, 2, none⟩) (lt_of_cell hx3) (nT _ (by have := lt_of_cell x2; exact this) hwW)).trans hx3
      have he3 : w3.cell? ⟨b, o + k, none⟩ = some (.slice A' rc.length c') := (K13.cell (p := ⟨b, o + k, none⟩) (lt_of_cell h0) trivial).trans h0
      have hbl : b < w1.heap.size := by
        obtain ⟨_, _, _, _, e, _, h0', _⟩ := hC1.at_ hlt
        injection e with e
        injection e with e1 e2 _
        rw [← e1] at h0'
        exact lt_of_cell h0'
      have ue : w4.cell? ⟨b, o + k, none⟩ = some (.slice A' rc.length c') := (K34.cell (p := ⟨b, o + k, none⟩) (lt_of_cell he3) (nT _ hbl (fun hT => hS b hSb (hTB b hT)))).trans he3
      have ht4 := ht3.pushR (x := (rc, .slice Ax rc.length cx)) (hvx.keep (K23.old _)) K34 hown4 hat4
      obtain ⟨A4, c4', hv4, _, _⟩ := own_slice hown4
      subst hv4
      have hz13 := K13.size
      have HR := hid (show InTell w1 T t (.slice A1 (gi.length + 1 + 1) c1) uP gi2 pts many sz dn (k + 1) (w4.setCell ⟨t, 2, none⟩ (.slice A4 (rqk.length + 1) c4')) from ⟨_, _, _, ht4, by rw [List.map_append, HRQ.out, HT.out]; rfl, fun k hk => by
        rcases hk with hk | hk | hk
        · exact hTk k hk
        · right; have h1 : wr.heap.size ≤ k := hk.1; omega
        · rcases hat4 with e | e
          · rw [e] at hk; exact hTk k (htk.r.foot k hk)
          · rw [e] at hk; injection hk with hk; right; omega, ((hKk.trans' (K13.old _)).trans K34 fun k hk hn => nT k hk hn).setCell (fun _ hk => hk h.tale.ft) _⟩)
      refine hK _ _ ⟨u2, ux, ue⟩ ?_
      clear hK K
      refine pt_tail (by rfl) ?_
      clear y2 hxk h0 hx3 he3 ht4 ht3 ht2 htk hown4 hgrow4 hat4 K34
      go_wp2
      refine NoPanic.normal ?_
      go_wp2
      exact ⟨⟨k + 1, by go_num, by omega, HR⟩, by simp [intOf]; omega⟩
    · obtain rfl : k = many.length := by omega
      rw [List.take_length] at hrq
      have i4 : ¬ ((many.length : Nat) : Int) < (many.length : Int) := by omega
      have hg2l : gi2.length = gi.length + 1 := by rw [HG2.out]; simp
      have hrn : rqk.length = many.length := by rw [← hrq]; simp
      have y3 : wr.cell? ⟨t, 3, none⟩ = some (.int .i64 (sz : Int)) := cell_of_heap htk.head
      have y4 : wr.cell? ⟨t, 4, none⟩ = some (.int .i64 (dn : Int)) := cell_of_heap htk.head
      have yf : ∀ i, wr.frozen? ⟨t, i, none⟩ = false := fun i => frozen_of_heap htk.head
      obtain ⟨W5, hW5⟩ : ∃ W, W = (wr.setCell ⟨t, 3, none⟩ (.int .i64 (s2 : Int))).setCell ⟨t, 4, none⟩ (.int .i64 (dn2 : Int)) := ⟨_, rfl⟩
      have ht5 := (htk.setInt (size' := s2) (written' := dn) (.inl ⟨rfl, rfl, rfl⟩)).setInt (size' := s2) (written' := dn2) (.inr ⟨rfl, rfl, rfl⟩)
      rw [← hW5] at ht5
      have k5 : Keeps (fun k => ¬ T k) w1 W5 := by
        rw [hW5]
        exact (hKk.setCell (fun _ hk => hk h.tale.ft) _).setCell (fun _ hk => hk h.tale.ft) _
      have hno := note_any W5 Tk t _ uP v _ gi2 pts rqk s2 dn2 ht5 (by omega) (by omega)
      have hz5 := k5.size
      have HFL := hid hn1.lt
      have HN5 := hid (hn1.keep (k5.mono fun k _ hk => hF1t k hk))
      have HRQ := hid hrq
      have HTk := hid hTk
      have HGL := hid (And.intro hg2l hrn)
      clear htk ht5 hn1 hg2l hrn hrq hTk
      go_upto_region 29 with fail
      rw [← hW5]
      clear hW5
      go_wp2_with fail
      refine hno.mono ?_
      rintro e w6 ⟨rfl, T6, uG6, uP6, ht6, hT6, k6⟩
      clear hno
      have hz6 := k6.size
      have hF4 : ∀ k, F1 k → ¬ Tk k := fun k hk hT => by
        rcases HTk.out k hT with h | h
        · exact hF1t k hk h
        · have := HFL.out k hk; omega
      have hn6 := HN5.out.keep (k6.mono fun k _ hk => hF4 k hk)
      go_wp2
      go_ret
      obtain ⟨hsz, hs2, hdn, hdn2⟩ := HSZ.out
      obtain ⟨hg2l, hrn⟩ := HGL.out
      have HTJ : TJ F1 T6 w6 g t vA vB vP1 q1 uG6 uP6 v gi2 (pts ++ [⟨gi2.length, rqk.length, dn2⟩]) rqk j' R0 (rest ++ [(many, dirtyN j.ws + (16 + sizeF many))]) many := by
        refine ⟨hn6, ?_, HRQ.out, ?_, fun k hk hT => ?_, hrec⟩
        · have e2 : dirtyN j'.ws = dn2 := by omega
          rw [e2, ← hs2]
          exact ht6
        · have h1 := h.hist.next (R := many)
          have h2 : gi2.map (·.1) = gi.map (·.1) ++ [R] := by rw [HG2.out, List.map_append]; simp [h.recs]
          rw [← h2] at h1
          have := h1.push (ptOK_last (gi := gi2) (rq := rqk) (R := many) HRQ.out dn2)
          rw [hdn2, hdn, hs2] at this
          rw [hdn2, hdn, hs2]
          exact this
        · rcases hT6 k hT with h' | h'
          · exact hF4 k hk h'
          · have := HFL.out k hk; omega
      refine post_tell HTJ (by unfold stepJ; rw [if_neg (by decide), if_pos rfl, hap]) (by omega) (by omega) (by simp; omega) (fun k hk => ?_) (fun k hk => ?_) ?_
      · rcases hF1 k hk with hf | hf
        · exact .inl (hFB k hf)
        · right; omega
      · rcases hT6 k hk with h' | h'
        · rcases HTk.out k h' with h' | h'
          · exact .inl (hTB k h')
          · right; omega
        · right; omega
      · refine (((k0.old _).trans' (k1.mono fun k _ hk hf => hk (hFB k hf))).trans' (k5.mono fun k _ hk hf => hk (hTB k hf))).trans k6 fun k hk hb hT => ?_
        rcases HTk.out k hT with h' | h'
        · exact hb (hTB k h')
        · omega


/-- A step, whichever. -/
theorem tell_any (w : World) (g t : Nat) (j : Jn) (R0 : Recs) (rest : List (Recs × Nat)) (R : Recs) (N : Nat) (B S : Nat → Prop) (h : TJs N B w g t j R0 rest R) (hN : N ≤ 2900000000000)
    (kind n : Int) (A C : Option Addr) (c d : Nat) (one : List UInt8) (many : Recs) (hA : Bts S w A one) (hC : Rcs S w C many) (hm : many.length ≤ 6000000000000) (hS : ∀ k, S k → ¬ B k) (hT : Tab w) :
    Calls Tryd.prog 39 #[.pointer (some ⟨t, 0, none⟩), .pointer (some ⟨g, 0, none⟩), .agg #[.int .i64 kind, .slice A one.length c, .slice C many.length d, .int .i64 n]] w (PostTell N B w g t j kind one many) := by
  obtain ⟨F, T, vA, vB, vP, q, uG, uP, uR, gi, pts, rq, hh, h1, h2, h3, hFB, hTB⟩ := h
  have he := hh.rec_.log.end_
  by_cases k1 : kind = 1
  · subst k1
    by_cases hl : 65536 < one.length
    · exact tell_long w F T g t vA vB vP q uG uP uR gi pts rq j R0 rest R hh N B S h1 h2 h3 hN hFB hTB n A C c d one many hA hT hl
    · by_cases hf : 1048576 < j.end_ + 12 + one.length
      · exact tell_full w F T g t vA vB vP q uG uP uR gi pts rq j R0 rest R hh N B S h1 h2 h3 hN hFB hTB n A C c d one many hA hT (by omega) hf
      · exact tell_append w F T g t vA vB vP q uG uP uR gi pts rq j R0 rest R hh N B S h1 h2 h3 hN hFB hTB n A C c d one many hA hT hS (by omega) (by omega)
  by_cases k2 : kind = 2
  · subst k2
    by_cases hl : ∃ r ∈ many, 65536 < r.length
    · exact tell_rlong w F T g t vA vB vP q uG uP uR gi pts rq j R0 rest R hh N B S h1 h2 h3 hN hFB hTB n A C c d one many hC hm hS hT hl
    · by_cases hf : 1048576 < 16 + sizeF many
      · exact tell_rfull w F T g t vA vB vP q uG uP uR gi pts rq j R0 rest R hh N B S h1 h2 h3 hN hFB hTB n A C c d one many hC hm hS hT hl hf
      · exact tell_rewrite w F T g t vA vB vP q uG uP uR gi pts rq j R0 rest R hh N B S h1 h2 h3 hN hFB hTB n A C c d one many hC hm hS hT (fun r hr => by
          by_cases hx : r.length ≤ 65536
          · exact hx
          · exact absurd ⟨r, hr, by omega⟩ hl) (by omega)
  by_cases k3 : kind = 3
  · subst k3
    exact tell_sync w F T g t vA vB vP q uG uP uR gi pts rq j R0 rest R hh N B h1 h2 hN hFB hTB n A C c d one many
  · exact tell_other w F T g t vA vB vP q uG uP uR gi pts rq j R0 rest R hh N B h1 h2 h3 hN hFB hTB kind n A C c d one many k1 k2 k3

end Go.Proofs.YtdpaaoeipconcaaDoor

