/- journal.Open: a disk is read: openJ. Conditions: the disk can be read, the table lies. -/
import Derived.Test.YtdpaaoeipconcaaDoorJLCrash
import Derived.Test.YtdpaaoeipconcaaDoorJOpenP
import Derived.Test.YtdpaaoeipconcaaDoorJScan
import Derived.Test.YtdpaaoeipconcaaDoorMPlan
namespace Go.Proofs.YtdpaaoeipconcaaDoor
open Go.RowKit

/-- Behind Open. -/
def PostLOpen (w : World) (r : Option (Jn × List (List UInt8))) (e : Ending) (w' : World) : Prop :=
  match r with
  | none => e = .returned (.tuple #[.pointer none, .slice none 0 0, .int .i64 120]) ∧ Old w w'
  | some (j, recs) => ∃ F g vA vB vP q L ql, e = .returned (.tuple #[.pointer (some ⟨g, 0, none⟩), L, .int .i64 0]) ∧ LNet F w' g vA vB vP q j ∧ (∀ k, F k → w.heap.size ≤ k) ∧ ql.map (·.1) = recs ∧ OwnR (fun k => w.heap.size ≤ k ∧ ¬ F k) w' L ql ∧ Old w w'

theorem set_eight {W : World} {g t : Nat} {a b c d a' b' c' d' : Value} (h : W.heap[g]? = some (.cells #[a, b, c, d, a', b', c', d'] t (0, 0))) (x0 x1 x2 x3 x4 x5 x6 x7 : Value) :
    ((((((((W.setCell ⟨g, 0, none⟩ x0).setCell ⟨g, 1, none⟩ x1).setCell ⟨g, 2, none⟩ x2).setCell ⟨g, 3, none⟩ x3).setCell ⟨g, 4, none⟩ x4).setCell ⟨g, 5, none⟩ x5).setCell ⟨g, 6, none⟩ x6).setCell ⟨g, 7, none⟩ x7).heap[g]? = some (.cells #[x0, x1, x2, x3, x4, x5, x6, x7] t (0, 0)) := by
  have h4 : ((((W.setCell ⟨g, 0, none⟩ x0).setCell ⟨g, 1, none⟩ x1).setCell ⟨g, 2, none⟩ x2).setCell ⟨g, 3, none⟩ x3).heap[g]? = some (.cells #[x0, x1, x2, x3, a', b', c', d'] t (0, 0)) := by
    rw [heap_setCell (heap_setCell (heap_setCell (heap_setCell h _) _) _) _]
    rfl
  generalize (((W.setCell ⟨g, 0, none⟩ x0).setCell ⟨g, 1, none⟩ x1).setCell ⟨g, 2, none⟩ x2).setCell ⟨g, 3, none⟩ x3 = W4 at *
  rw [heap_setCell (heap_setCell (heap_setCell (heap_setCell h4 _) _) _) _]
  rfl
theorem keeps_eight {W : World} {g : Nat} (x0 x1 x2 x3 x4 x5 x6 x7 : Value) : Keeps (· ≠ g) W ((((((((W.setCell ⟨g, 0, none⟩ x0).setCell ⟨g, 1, none⟩ x1).setCell ⟨g, 2, none⟩ x2).setCell ⟨g, 3, none⟩ x3).setCell ⟨g, 4, none⟩ x4).setCell ⟨g, 5, none⟩ x5).setCell ⟨g, 6, none⟩ x6).setCell ⟨g, 7, none⟩ x7) :=
  (keeps_four x0 x1 x2 x3).trans' (((((Keeps.refl _ _).setCell (fun _ h => h rfl) _).setCell (fun _ h => h rfl) _).setCell (fun _ h => h rfl) _).setCell (fun _ h => h rfl) _)

/-- Both areas are read: what lies then. -/
def Both (w : World) (ra rb : Ar) (v : Value) (wx : World) : Prop :=
  ∃ b La Lb qa qb, v = .pointer (some ⟨b, 0, none⟩) ∧ w.heap.size ≤ b ∧
    wx.heap[b]? = some (.cells #[.int .i64 (ra.state : Int), .int .u32 (ra.gen : Int), La, .int .i64 (ra.end_ : Int), .int .i64 (rb.state : Int), .int .u32 (rb.gen : Int), Lb, .int .i64 (rb.end_ : Int)] 107 (0, 0)) ∧
    qa.map (·.1) = ra.recs ∧ qb.map (·.1) = rb.recs ∧ OwnR (fun k => w.heap.size ≤ k) wx La qa ∧ OwnR (fun k => w.heap.size ≤ k) wx Lb qb ∧ Old w wx

theorem both_mk {w W2 : World} {ra rb : Ar} {b : Nat} {La Lb : Value} {qa qb : List (List UInt8 × Value)} {a0 a1 a2 a3 a4 a5 a6 a7 : Value} (hb : W2.heap[b]? = some (.cells #[a0, a1, a2, a3, a4, a5, a6, a7] 107 (0, 0))) (hwb : w.heap.size ≤ b)
    (hqa : qa.map (·.1) = ra.recs) (hqb : qb.map (·.1) = rb.recs) (hoa : OwnR (fun k => w.heap.size ≤ k) W2 La qa) (hob : OwnR (fun k => w.heap.size ≤ k) W2 Lb qb) (K : Old w W2) :
    Both w ra rb (.pointer (some ⟨b, 0, none⟩)) ((((((((W2.setCell ⟨b, 0, none⟩ (.int .i64 (ra.state : Int))).setCell ⟨b, 1, none⟩ (.int .u32 (ra.gen : Int))).setCell ⟨b, 2, none⟩ La).setCell ⟨b, 3, none⟩ (.int .i64 (ra.end_ : Int))).setCell ⟨b, 4, none⟩ (.int .i64 (rb.state : Int))).setCell ⟨b, 5, none⟩ (.int .u32 (rb.gen : Int))).setCell ⟨b, 6, none⟩ Lb).setCell ⟨b, 7, none⟩ (.int .i64 (rb.end_ : Int))) := by
  have KS := keeps_eight (W := W2) (g := b) (.int .i64 (ra.state : Int)) (.int .u32 (ra.gen : Int)) La (.int .i64 (ra.end_ : Int)) (.int .i64 (rb.state : Int)) (.int .u32 (rb.gen : Int)) Lb (.int .i64 (rb.end_ : Int))
  have nb : ∀ {v : Value} {n : Nat} {e : TypeId} {xs : List Value}, e ≠ 107 → W2.ownsRow 0 e 1 v n xs → ∀ k, v.ownBlock = some k → k ≠ b := fun he hx k hk e => own_ne_heap hx hb he (by rw [hk, e])
  have keep : ∀ {L : Value} {q : List (List UInt8 × Value)}, OwnR (fun k => w.heap.size ≤ k) W2 L q → OwnR (fun k => w.heap.size ≤ k) _ L q := fun h =>
    ⟨own_keeps h.row KS (nb (by decide) h.row), fun x hx => ⟨own_keeps (h.own x hx).row KS (nb (by decide) (h.own x hx).row), (h.own x hx).foot, (h.own x hx).len⟩, h.foot, h.dis⟩
  exact ⟨b, La, Lb, qa, qb, rfl, hwb, set_eight hb _ _ _ _ _ _ _ _, hqa, hqb, keep hoa, keep hob, K.trans KS fun k hk _ => by show k ≠ b; omega⟩

theorem idx0 (a0 a1 a2 a3 a4 a5 a6 a7 : Value) (w : World) : (Instr.index 107 (.agg #[a0, a1, a2, a3, a4, a5, a6, a7]) (.int .i64 0)).run Tryd.prog w = .ok (.agg #[a0, a1, a2, a3]) w := by kernel_rfl
theorem idx1 (a0 a1 a2 a3 a4 a5 a6 a7 : Value) (w : World) : (Instr.index 107 (.agg #[a0, a1, a2, a3, a4, a5, a6, a7]) (.int .i64 1)).run Tryd.prog w = .ok (.agg #[a4, a5, a6, a7]) w := by kernel_rfl

set_option maxRecDepth 10000 in
set_option maxHeartbeats 4000000 in
theorem lopen_any (w : World) (S : Nat → Prop) (A B : Option Addr) (n m c d : Nat) (xs ys : List UInt8) (ha : Bts S w A xs) (hb : Bts S w B ys) (hn : n = xs.length) (hm : m = ys.length) (hc : n ≤ c) (hd : m ≤ d) (hT : Tab w) :
    Calls Tryd.prog 32 #[.agg #[.slice A n c, .slice B m d]] w (PostLOpen w (openJ (xs, ys))) := by
  obtain ⟨W0, hW0⟩ : ∃ W, W = w.alloc (.cells #[.slice A n c, .slice B m d] 24) := ⟨_, rfl⟩
  have k0 : Old w W0 := by rw [hW0]; exact (Keeps.refl _ _).alloc _
  have hb0 : W0.heap[w.heap.size]? = some (.cells #[.slice A n c, .slice B m d] 24 (0, 0)) := by rw [hW0]; exact heap_alloc_new _ _
  have c0 : W0.cell? ⟨w.heap.size, 0, none⟩ = some (.slice A n c) := cell_of_heap hb0
  have c1 : W0.cell? ⟨w.heap.size, 1, none⟩ = some (.slice B m d) := cell_of_heap hb0
  have hra : ∀ W, Old W0 W → Calls Tryd.prog 61 #[.slice A n c] W (PostScan W (readA xs)) := fun W hW => scan_any W S A n c xs (hT.keep ((k0.trans' hW).old (fun _ => True)) trivial) (ha.keep ((k0.trans' hW).old _)) hn hc
  have hrb : ∀ W, Old W0 W → Calls Tryd.prog 61 #[.slice B m d] W (PostScan W (readA ys)) := fun W hW => scan_any W S B m d ys (hT.keep ((k0.trans' hW).old (fun _ => True)) trivial) (hb.keep ((k0.trans' hW).old _)) hm hd
  have HRA := hid hra
  have HRB := hid hrb
  have HN := hid hn
  have HM := hid hm
  clear hra hrb hn hm
  obtain ⟨a1, a2, a3⟩ := readA_ok xs
  obtain ⟨b1, b2, b3⟩ := readA_ok ys
  have hoo : openJ (xs, ys) = (let a := readA xs; let b := readA ys
    if a.state = 1 ∨ b.state = 1 then none
    else if a.state ≠ 3 ∧ b.state ≠ 3 then (if a.state = 2 ∨ b.state = 2 then none else some (⟨xs, ys, [⟨0, 0, headB 1 0⟩], 0, 1, 0, 16⟩, []))
    else if a.state ≠ 3 ∨ (b.state = 3 ∧ 2147483648 ≤ (a.gen + 4294967296 - b.gen) % 4294967296) then some (⟨xs, ys, [], 1, b.gen, b.recs.length, b.end_⟩, b.recs)
    else some (⟨xs, ys, [], 0, a.gen, a.recs.length, a.end_⟩, a.recs)) := rfl
  have HOO := hid hoo
  clear hoo
  generalize readA xs = ra at *
  generalize readA ys = rb at *
  obtain ⟨sa, ga, rsa, ea⟩ := ra
  obtain ⟨sb, gb, rsb, eb⟩ := rb
  simp only at a1 a2 a3 b1 b2 b3
  go_enter Tryd.func32, Tryd.ntmps32
  go_upto_region 1 with fail
  rw [← hW0]
  clear hW0
  go_cut [5] (fun v wx => Both W0 ⟨sa, ga, rsa, ea⟩ ⟨sb, gb, rsb, eb⟩ v wx)
  case first =>
    refine wp_region_tree (fun w' => w'.cell? ⟨w.heap.size, 0, none⟩ = some (.slice A n c) ∧ w'.cell? ⟨w.heap.size, 1, none⟩ = some (.slice B m d)) 8
      (.take 0 (.take 1 (.take 3 (.take 4 (.two 2 7 (.two 5 7 (.take 6 (.one 7 .tail)) (.one 5 (.take 6 .tail))) (.one 2 (.one 5 (.take 6 .tail)))))))) (by kernel_rfl) (by kernel_rfl) ⟨c0, c1⟩ ?_
    iterate 4 (refine pt_take (v := ?_) (by rfl) (by rfl) (fun w' hS => ?_) ?_; rotate_left 1; (obtain ⟨s0, s1⟩ := hS; go_simp <;> (try with_reducible rfl)); (simp only [Act.put, List.setIfInBounds_toArray, List.set_cons_zero, List.set_cons_succ]))
    have k0d : Old W0 W0.drew := (Keeps.refl _ _).drew
    have z0 := k0.size
    refine pt_two (by rfl) (by rfl) (loudly_of (by rfl) (fun K hK => ?_)) (loudly_of (by rfl) (fun K hK => ?_))
    · go_wp2_with (go_at_call 61; refine (HRA.out W0.drew k0d).mono ?_)
      rintro e w1 ⟨La, qa, rfl, hqa, hoa, k1⟩
      obtain ⟨Aa, caa, rfl, _, _⟩ := own_slice hoa.row
      have K01 : Old W0 w1 := k1.ofDrew
      have z1 := K01.size
      refine hK _ _ ⟨(K01.cell (lt_of_cell c0) trivial).trans c0, (K01.cell (lt_of_cell c1) trivial).trans c1⟩ ?_
      clear hK K
      refine pt_two (by rfl) (by rfl) (loudly_of (by rfl) (fun K hK => ?_)) (loudly_of (by rfl) (fun K hK => ?_))
      · go_wp2_with (go_at_call 61; refine (HRB.out w1 K01).mono ?_)
        rintro e w2 ⟨Lb, qb, rfl, hqb, hob, k2⟩
        obtain ⟨Ab, cab, rfl, _, _⟩ := own_slice hob.row
        have K02 : Old W0 w2 := K01.trans' k2
        have z2 := K02.size
        refine hK _ _ ⟨(K02.cell (lt_of_cell c0) trivial).trans c0, (K02.cell (lt_of_cell c1) trivial).trans c1⟩ ?_
        clear hK K
        (refine pt_take (v := ?_) (by rfl) (by rfl) (fun w' hS => ?_) ?_; rotate_left 1; (go_simp <;> (try with_reducible rfl)); (simp only [Act.put, List.setIfInBounds_toArray, List.set_cons_zero, List.set_cons_succ]))
        refine pt_one (by rfl) (loudly_of (by rfl) (fun K hK => ?_))
        go_wp2
        obtain ⟨W3, hW3⟩ : ∃ W, W = w2.alloc (.cells #[.int .i64 0, .int .u32 0, .slice none 0 0, .int .i64 0, .int .i64 0, .int .u32 0, .slice none 0 0, .int .i64 0] 107) := ⟨_, rfl⟩
        rw [← hW3]
        have kW3 : Old w2 W3 := by rw [hW3]; exact (Keeps.refl _ _).alloc _
        have hbW3 : W3.heap[w2.heap.size]? = some (.cells #[.int .i64 0, .int .u32 0, .slice none 0 0, .int .i64 0, .int .i64 0, .int .u32 0, .slice none 0 0, .int .i64 0] 107 (0, 0)) := by rw [hW3]; exact heap_alloc_new _ _
        clear hW3
        have K03 : Old W0 W3 := K02.trans' kW3
        refine hK _ _ ⟨(K03.cell (lt_of_cell c0) trivial).trans c0, (K03.cell (lt_of_cell c1) trivial).trans c1⟩ ?_
        clear hK K
        have hoa' := (hoa.keep ((k2.trans' kW3).old _)).mono fun k _ (h : W0.drew.heap.size ≤ k) => (by simpa using h : W0.heap.size ≤ k)
        have hob' := (hob.keep (kW3.old _)).mono fun k _ (h : w1.heap.size ≤ k) => (by omega : W0.heap.size ≤ k)
        have y0 : W3.cell? ⟨w2.heap.size, 0, none⟩ = some (.int .i64 0) := cell_of_heap hbW3
        have y1 : W3.cell? ⟨w2.heap.size, 1, none⟩ = some (.int .u32 0) := cell_of_heap hbW3
        have y2 : W3.cell? ⟨w2.heap.size, 2, none⟩ = some (.slice none 0 0) := cell_of_heap hbW3
        have y3 : W3.cell? ⟨w2.heap.size, 3, none⟩ = some (.int .i64 0) := cell_of_heap hbW3
        have y4 : W3.cell? ⟨w2.heap.size, 4, none⟩ = some (.int .i64 0) := cell_of_heap hbW3
        have y5 : W3.cell? ⟨w2.heap.size, 5, none⟩ = some (.int .u32 0) := cell_of_heap hbW3
        have y6 : W3.cell? ⟨w2.heap.size, 6, none⟩ = some (.slice none 0 0) := cell_of_heap hbW3
        have y7 : W3.cell? ⟨w2.heap.size, 7, none⟩ = some (.int .i64 0) := cell_of_heap hbW3
        have yf : ∀ i, W3.frozen? ⟨w2.heap.size, i, none⟩ = false := fun i => frozen_of_heap hbW3
        have R := hid (both_mk (ra := ⟨sa, ga, rsa, ea⟩) (rb := ⟨sb, gb, rsb, eb⟩) hbW3 (by omega) hqa hqb hoa' hob' K03)
        refine pt_tail (by rfl) ?_
        go_wp2
        refine NoPanic.normal ?_
        go_wp2
        go_meet
        exact R.out
      · go_wp2
        obtain ⟨W3, hW3⟩ : ∃ W, W = w1.alloc (.cells #[.int .i64 0, .int .u32 0, .slice none 0 0, .int .i64 0, .int .i64 0, .int .u32 0, .slice none 0 0, .int .i64 0] 107) := ⟨_, rfl⟩
        rw [← hW3]
        have kW3 : Old w1 W3 := by rw [hW3]; exact (Keeps.refl _ _).alloc _
        have hbW3 : W3.heap[w1.heap.size]? = some (.cells #[.int .i64 0, .int .u32 0, .slice none 0 0, .int .i64 0, .int .i64 0, .int .u32 0, .slice none 0 0, .int .i64 0] 107 (0, 0)) := by rw [hW3]; exact heap_alloc_new _ _
        clear hW3
        have K03 : Old W0 W3 := K01.trans' kW3
        have z3 := K03.size
        refine hK _ _ ⟨(K03.cell (lt_of_cell c0) trivial).trans c0, (K03.cell (lt_of_cell c1) trivial).trans c1⟩ ?_
        clear hK K
        refine pt_one (by rfl) (loudly_of (by rfl) (fun K hK => ?_))
        go_wp2_with (go_at_call 61; refine (HRB.out W3 K03).mono ?_)
        rintro e w2 ⟨Lb, qb, rfl, hqb, hob, k2⟩
        obtain ⟨Ab, cab, rfl, _, _⟩ := own_slice hob.row
        have K02 : Old W0 w2 := K03.trans' k2
        refine hK _ _ ⟨(K02.cell (lt_of_cell c0) trivial).trans c0, (K02.cell (lt_of_cell c1) trivial).trans c1⟩ ?_
        clear hK K
        (refine pt_take (v := ?_) (by rfl) (by rfl) (fun w' hS => ?_) ?_; rotate_left 1; (go_simp <;> (try with_reducible rfl)); (simp only [Act.put, List.setIfInBounds_toArray, List.set_cons_zero, List.set_cons_succ]))
        have hb2 := k2.heap hbW3 trivial
        have hoa' := (hoa.keep ((kW3.trans' k2).old _)).mono fun k _ (h : W0.drew.heap.size ≤ k) => (by simpa using h : W0.heap.size ≤ k)
        have hob' := hob.mono fun k _ (h : W3.heap.size ≤ k) => (by omega : W0.heap.size ≤ k)
        have y0 : w2.cell? ⟨w1.heap.size, 0, none⟩ = some (.int .i64 0) := cell_of_heap hb2
        have y1 : w2.cell? ⟨w1.heap.size, 1, none⟩ = some (.int .u32 0) := cell_of_heap hb2
        have y2 : w2.cell? ⟨w1.heap.size, 2, none⟩ = some (.slice none 0 0) := cell_of_heap hb2
        have y3 : w2.cell? ⟨w1.heap.size, 3, none⟩ = some (.int .i64 0) := cell_of_heap hb2
        have y4 : w2.cell? ⟨w1.heap.size, 4, none⟩ = some (.int .i64 0) := cell_of_heap hb2
        have y5 : w2.cell? ⟨w1.heap.size, 5, none⟩ = some (.int .u32 0) := cell_of_heap hb2
        have y6 : w2.cell? ⟨w1.heap.size, 6, none⟩ = some (.slice none 0 0) := cell_of_heap hb2
        have y7 : w2.cell? ⟨w1.heap.size, 7, none⟩ = some (.int .i64 0) := cell_of_heap hb2
        have yf : ∀ i, w2.frozen? ⟨w1.heap.size, i, none⟩ = false := fun i => frozen_of_heap hb2
        have R := hid (both_mk (ra := ⟨sa, ga, rsa, ea⟩) (rb := ⟨sb, gb, rsb, eb⟩) hb2 (by omega) hqa hqb hoa' hob' K02)
        refine pt_tail (by rfl) ?_
        go_wp2
        refine NoPanic.normal ?_
        go_wp2
        go_meet
        exact R.out
    · go_wp2
      obtain ⟨W3, hW3⟩ : ∃ W, W = (W0.alloc (.cells #[.int .i64 0, .int .u32 0, .slice none 0 0, .int .i64 0, .int .i64 0, .int .u32 0, .slice none 0 0, .int .i64 0] 107)).drew := ⟨_, rfl⟩
      rw [← hW3]
      have kW3 : Old W0 W3 := by rw [hW3]; exact ((Keeps.refl _ _).alloc _).drew
      have hbW3 : W3.heap[W0.heap.size]? = some (.cells #[.int .i64 0, .int .u32 0, .slice none 0 0, .int .i64 0, .int .i64 0, .int .u32 0, .slice none 0 0, .int .i64 0] 107 (0, 0)) := by rw [hW3]; exact heap_alloc_new _ _
      clear hW3
      have K03 : Old W0 W3 := kW3
      have z3 := K03.size
      refine hK _ _ ⟨(K03.cell (lt_of_cell c0) trivial).trans c0, (K03.cell (lt_of_cell c1) trivial).trans c1⟩ ?_
      clear hK K
      refine pt_one (by rfl) (loudly_of (by rfl) (fun K hK => ?_))
      go_wp2_with (go_at_call 61; refine (HRA.out W3 K03).mono ?_)
      rintro e w1 ⟨La, qa, rfl, hqa, hoa, k1⟩
      obtain ⟨Aa, caa, rfl, _, _⟩ := own_slice hoa.row
      have K01 : Old W0 w1 := K03.trans' k1
      have z1 := K01.size
      refine hK _ _ ⟨(K01.cell (lt_of_cell c0) trivial).trans c0, (K01.cell (lt_of_cell c1) trivial).trans c1⟩ ?_
      clear hK K
      refine pt_one (by rfl) (loudly_of (by rfl) (fun K hK => ?_))
      go_wp2_with (go_at_call 61; refine (HRB.out w1 K01).mono ?_)
      rintro e w2 ⟨Lb, qb, rfl, hqb, hob, k2⟩
      obtain ⟨Ab, cab, rfl, _, _⟩ := own_slice hob.row
      have K02 : Old W0 w2 := K01.trans' k2
      refine hK _ _ ⟨(K02.cell (lt_of_cell c0) trivial).trans c0, (K02.cell (lt_of_cell c1) trivial).trans c1⟩ ?_
      clear hK K
      (refine pt_take (v := ?_) (by rfl) (by rfl) (fun w' hS => ?_) ?_; rotate_left 1; (go_simp <;> (try with_reducible rfl)); (simp only [Act.put, List.setIfInBounds_toArray, List.set_cons_zero, List.set_cons_succ]))
      have hb2 := (k1.trans' k2).heap hbW3 trivial
      have hoa' := (hoa.keep (k2.old _)).mono fun k _ (h : W3.heap.size ≤ k) => (by omega : W0.heap.size ≤ k)
      have hob' := hob.mono fun k _ (h : w1.heap.size ≤ k) => (by omega : W0.heap.size ≤ k)
      have y0 : w2.cell? ⟨W0.heap.size, 0, none⟩ = some (.int .i64 0) := cell_of_heap hb2
      have y1 : w2.cell? ⟨W0.heap.size, 1, none⟩ = some (.int .u32 0) := cell_of_heap hb2
      have y2 : w2.cell? ⟨W0.heap.size, 2, none⟩ = some (.slice none 0 0) := cell_of_heap hb2
      have y3 : w2.cell? ⟨W0.heap.size, 3, none⟩ = some (.int .i64 0) := cell_of_heap hb2
      have y4 : w2.cell? ⟨W0.heap.size, 4, none⟩ = some (.int .i64 0) := cell_of_heap hb2
      have y5 : w2.cell? ⟨W0.heap.size, 5, none⟩ = some (.int .u32 0) := cell_of_heap hb2
      have y6 : w2.cell? ⟨W0.heap.size, 6, none⟩ = some (.slice none 0 0) := cell_of_heap hb2
      have y7 : w2.cell? ⟨W0.heap.size, 7, none⟩ = some (.int .i64 0) := cell_of_heap hb2
      have yf : ∀ i, w2.frozen? ⟨W0.heap.size, i, none⟩ = false := fun i => frozen_of_heap hb2
      have R := hid (both_mk (ra := ⟨sa, ga, rsa, ea⟩) (rb := ⟨sb, gb, rsb, eb⟩) hb2 (by omega) hqa hqb hoa' hob' K02)
      refine pt_tail (by rfl) ?_
      go_wp2
      refine NoPanic.normal ?_
      go_wp2
      go_meet
      exact R.out
  case rest =>
    clear c0 c1
    obtain ⟨b, La, Lb, qa, qb, rfl, hwb, hbb, hqa, hqb, hoa, hob, K1⟩ := hcut
    simp only at hqa hqb hbb
    obtain ⟨Aa, caa, rfl, hcaa, _⟩ := own_slice hoa.row
    obtain ⟨Ab, cab, rfl, hcab, _⟩ := own_slice hob.row
    have p0 : wc.cell? ⟨b, 0, none⟩ = some (.int .i64 (sa : Int)) := cell_of_heap hbb
    have p1 : wc.cell? ⟨b, 1, none⟩ = some (.int .u32 (ga : Int)) := cell_of_heap hbb
    have p2 : wc.cell? ⟨b, 2, none⟩ = some (.slice Aa qa.length caa) := cell_of_heap hbb
    have p3 : wc.cell? ⟨b, 3, none⟩ = some (.int .i64 (ea : Int)) := cell_of_heap hbb
    have p4 : wc.cell? ⟨b, 4, none⟩ = some (.int .i64 (sb : Int)) := cell_of_heap hbb
    have p5 : wc.cell? ⟨b, 5, none⟩ = some (.int .u32 (gb : Int)) := cell_of_heap hbb
    have p6 : wc.cell? ⟨b, 6, none⟩ = some (.slice Ab qb.length cab) := cell_of_heap hbb
    have p7 : wc.cell? ⟨b, 7, none⟩ = some (.int .i64 (eb : Int)) := cell_of_heap hbb
    have hb01 := K1.heap hb0 trivial
    have ix0 := idx0
    have ix1 := idx1
    go_wp2
    go_loopw [7, 20] (fun _ iv wr => ∃ k : Nat, iv = .int .i64 k ∧ Hid (Old wc wr) ∧ Hid (k = 0 ∨ (k = 1 ∧ sa ≠ 1) ∨ (k = 2 ∧ sa ≠ 1 ∧ sb ≠ 1))) (fun _ i _ => 2 - (intOf i).toNat)
    case atStart => exact ⟨0, rfl, hid (Keeps.refl _ _), hid (.inl rfl)⟩
    case round =>
      obtain ⟨k, rfl, hold, hin⟩ := hrel
      replace hold := hold.out
      rcases hin.out with rfl | ⟨rfl, hsa⟩ | ⟨rfl, hsa, hsb⟩
      · clear p0 p1 p2 p3 p4 p5 p6 p7
        by_cases hsa : sa = 1
        · subst hsa
          go_wp2
          go_ret3
          rw [HOO.out]
          simp only [true_or, if_true]
          exact ⟨rfl, ((k0.trans' K1).trans' hold).alloc _⟩
        · have i1 : ((sa : Int) == 1) = false := by rw [beq_eq_false_iff_ne]; omega
          go_wp2
          exact ⟨⟨1, by go_num, hid (hold.alloc _), hid (.inr (.inl ⟨rfl, hsa⟩))⟩, by simp [intOf]⟩
      · clear p0 p1 p2 p3 p4 p5 p6 p7
        by_cases hsb : sb = 1
        · subst hsb
          go_wp2
          go_ret3
          rw [HOO.out]
          simp only [or_true, if_true]
          exact ⟨rfl, ((k0.trans' K1).trans' hold).alloc _⟩
        · have i1 : ((sb : Int) == 1) = false := by rw [beq_eq_false_iff_ne]; omega
          go_wp2
          exact ⟨⟨2, by go_num, hid (hold.alloc _), hid (.inr (.inr ⟨rfl, hsa, hsb⟩))⟩, by simp [intOf]⟩
      · rw [show ((2 : Nat) : Int) = 2 from rfl]
        have la := a2 hsa
        have lb := b2 hsb
        have KR : Old w wr := (k0.trans' K1).trans' hold
        have hb0r := hold.heap hb01 trivial
        have hbbr := hold.heap hbb trivial
        have oA := hoa.keep (hold.old _)
        have oB := hob.keep (hold.old _)
        have r0 : wr.cell? ⟨w.heap.size, 0, none⟩ = some (.slice A n c) := cell_of_heap hb0r
        have r1 : wr.cell? ⟨w.heap.size, 1, none⟩ = some (.slice B m d) := cell_of_heap hb0r
        have z0 : w.heap.size ≤ W0.heap.size := k0.size
        have zr : W0.heap.size ≤ wr.heap.size := (K1.trans' hold).size
        have blt : b < wr.heap.size := lt_of_heap hbbr
        clear p0 p1 p2 p3 p4 p5 p6 p7 hoa hob hbb hb01 ix0 ix1
        go_upto_region 8 with fail
        refine wp_region_tree (fun w' => w'.cell? ⟨w.heap.size, 0, none⟩ = some (.slice A n c) ∧ w'.cell? ⟨w.heap.size, 1, none⟩ = some (.slice B m d)) 9
          (.take 0 (.take 1 (.take 3 (.take 4 (.one 2 (.one 5 (.take 6 (.take 7 (.one 8 .tail))))))))) (by kernel_rfl) (by kernel_rfl) ⟨r0, r1⟩ ?_
        iterate 4 (refine pt_take (v := ?_) (by rfl) (by rfl) (fun w' hS => ?_) ?_; rotate_left 1; (obtain ⟨s0, s1⟩ := hS; go_simp <;> (try with_reducible rfl)); (simp only [Act.put, List.setIfInBounds_toArray, List.set_cons_zero, List.set_cons_succ]))
        have hrd : Old wr wr.drew := (Keeps.refl _ _).drew
        refine pt_one (by rfl) (loudly_of (by rfl) (fun K hK => ?_))
        go_wp2_with (go_at_call 57; refine (jclone_any wr.drew S A n c xs (ha.keep ((KR.trans' hrd).old _)) HN.out (by omega)).mono ?_)
        rintro e w1 ⟨vA, rfl, hA, k1⟩
        obtain ⟨A6, ca6, rfl, _, _⟩ := hA.slice
        replace k1 := k1.ofDrew
        refine hK _ _ ⟨(k1.cell (lt_of_cell r0) trivial).trans r0, (k1.cell (lt_of_cell r1) trivial).trans r1⟩ ?_
        clear hK K
        refine pt_one (by rfl) (loudly_of (by rfl) (fun K hK => ?_))
        go_wp2_with (go_at_call 57; refine (jclone_any w1 S B m d ys (hb.keep ((KR.trans' k1).old _)) HM.out (by omega)).mono ?_)
        rintro e w2 ⟨vB, rfl, hB, k2⟩
        obtain ⟨B6, cb6, rfl, _, _⟩ := hB.slice
        have k12 := k1.trans' k2
        refine hK _ _ ⟨(k12.cell (lt_of_cell r0) trivial).trans r0, (k12.cell (lt_of_cell r1) trivial).trans r1⟩ ?_
        clear hK K
        iterate 2 (refine pt_take (v := ?_) (by rfl) (by rfl) (fun w' hS => ?_) ?_; rotate_left 1; (go_simp <;> (try with_reducible rfl)); (simp only [Act.put, List.setIfInBounds_toArray, List.set_cons_zero, List.set_cons_succ]))
        refine pt_one (by rfl) (loudly_of (by rfl) (fun K hK => ?_))
        go_wp2
        obtain ⟨W7, hW7⟩ : ∃ W, W = w2.alloc (.cells #[.slice A6 xs.length ca6, .slice B6 ys.length cb6, .slice none 0 0, .int .i64 0, .int .u32 0, .int .u32 0, .int .i64 0] 97) := ⟨_, rfl⟩
        rw [← hW7]
        have k7 : Old w2 W7 := by rw [hW7]; exact (Keeps.refl _ _).alloc _
        have hb7 : W7.heap[w2.heap.size]? = some (.cells #[.slice A6 xs.length ca6, .slice B6 ys.length cb6, .slice none 0 0, .int .i64 0, .int .u32 0, .int .u32 0, .int .i64 0] 97 (0, 0)) := by rw [hW7]; exact heap_alloc_new _ _
        clear hW7
        have k17 := k12.trans' k7
        refine hK _ _ ⟨(k17.cell (lt_of_cell r0) trivial).trans r0, (k17.cell (lt_of_cell r1) trivial).trans r1⟩ ?_
        clear hK K
        refine pt_tail (by rfl) ?_
        go_wp2
        refine NoPanic.normal ?_
        go_upto_region 9 with fail
        have hbb7 := k17.heap hbbr trivial
        have zs1 := k1.size
        have zs2 := k2.size
        have zs7 := k7.size
        have hA7 := (hA.keep ((k2.trans' k7).old _)).mono fun k _ (h : wr.drew.heap.size ≤ k) => (by simpa using h : wr.heap.size ≤ k)
        have hB7 := (hB.keep (k7.old _)).mono fun k _ (h : w1.heap.size ≤ k) => (by omega : wr.heap.size ≤ k)
        have hAB : ∀ k, (Value.slice A6 xs.length ca6).ownBlock = some k → (Value.slice B6 ys.length cb6).ownBlock ≠ some k := fun k h1 h2 => by
          have x1 := own_lt hA.row h1
          have x2 : w1.heap.size ≤ k := hB.foot k h2
          omega
        have KW : Old w W7 := KR.trans' k17
        clear r0 r1 hA hB hb0r hbbr
        go_cut [5, 8, 9, 10] (fun v5 v8 v9 v10 wx => v5 = .pointer (some ⟨b, 0, none⟩) ∧ v8 = .pointer (some ⟨w2.heap.size, 0, none⟩) ∧ ∃ ba bc, v9 = .pointer (some ⟨ba, 0, none⟩) ∧ v10 = .pointer (some ⟨bc, 0, none⟩) ∧
          wx.heap[ba]? = some (.cells #[.int .i64 (sa : Int), .int .u32 (ga : Int), .slice Aa qa.length caa, .int .i64 (ea : Int)] 105 (0, 0)) ∧ wx.heap[bc]? = some (.cells #[.int .i64 (sb : Int), .int .u32 (gb : Int), .slice Ab qb.length cab, .int .i64 (eb : Int)] 105 (0, 0)) ∧ Old W7 wx ∧ W7.heap.size ≤ ba ∧ W7.heap.size ≤ bc)
        case first =>
          refine wp_region_tree (fun w' => w'.heap[b]? = some (.cells #[.int .i64 (sa : Int), .int .u32 (ga : Int), .slice Aa qa.length caa, .int .i64 (ea : Int), .int .i64 (sb : Int), .int .u32 (gb : Int), .slice Ab qb.length cab, .int .i64 (eb : Int)] 107 (0, 0))) 8
            (.take 0 (.take 1 (.take 2 (.take 3 (.two 4 5 (.one 5 (.one 6 (.one 7 .tail))) (.one 4 (.one 6 (.one 7 .tail)))))))) (by kernel_rfl) (by kernel_rfl) hbb7 ?_
          iterate 4 (refine pt_take (v := ?_) (by rfl) (by rfl) (fun w' hS => ?_) ?_; rotate_left 1; (have s0 : w'.cell? ⟨b, 0, none⟩ = some (.int .i64 (sa : Int)) := cell_of_heap hS; have s1 : w'.cell? ⟨b, 1, none⟩ = some (.int .u32 (ga : Int)) := cell_of_heap hS; have s2 : w'.cell? ⟨b, 2, none⟩ = some (.slice Aa qa.length caa) := cell_of_heap hS; have s3 : w'.cell? ⟨b, 3, none⟩ = some (.int .i64 (ea : Int)) := cell_of_heap hS; have s4 : w'.cell? ⟨b, 4, none⟩ = some (.int .i64 (sb : Int)) := cell_of_heap hS; have s5 : w'.cell? ⟨b, 5, none⟩ = some (.int .u32 (gb : Int)) := cell_of_heap hS; have s6 : w'.cell? ⟨b, 6, none⟩ = some (.slice Ab qb.length cab) := cell_of_heap hS; have s7 : w'.cell? ⟨b, 7, none⟩ = some (.int .i64 (eb : Int)) := cell_of_heap hS; clear hS; go_simp <;> (try with_reducible rfl)); (simp only [Act.put, List.setIfInBounds_toArray, List.set_cons_zero, List.set_cons_succ]))
          refine pt_two (by rfl) (by rfl) (loudly_of (by rfl) (fun K hK => ?_)) (loudly_of (by rfl) (fun K hK => ?_))
          · go_wp2
            obtain ⟨W3, hW3⟩ : ∃ W, W = (W7.alloc (.cells #[.int .i64 0, .int .u32 0, .slice none 0 0, .int .i64 0] 105)).drew := ⟨_, rfl⟩
            rw [← hW3]
            have kW3 : Old W7 W3 := by rw [hW3]; exact ((Keeps.refl _ _).alloc _).drew
            have hx3 : W3.heap[W7.heap.size]? = some (.cells #[.int .i64 0, .int .u32 0, .slice none 0 0, .int .i64 0] 105 (0, 0)) := by rw [hW3]; exact heap_alloc_new _ _
            clear hW3
            refine hK _ _ (kW3.heap hbb7 trivial) ?_
            clear hK K
            refine pt_one (by rfl) (loudly_of (by rfl) (fun K hK => ?_))
            go_wp2
            obtain ⟨W4, hW4⟩ : ∃ W, W = W3.alloc (.cells #[.int .i64 0, .int .u32 0, .slice none 0 0, .int .i64 0] 105) := ⟨_, rfl⟩
            rw [← hW4]
            have kW4 : Old W3 W4 := by rw [hW4]; exact (Keeps.refl _ _).alloc _
            have hy4 : W4.heap[W3.heap.size]? = some (.cells #[.int .i64 0, .int .u32 0, .slice none 0 0, .int .i64 0] 105 (0, 0)) := by rw [hW4]; exact heap_alloc_new _ _
            clear hW4
            refine hK _ _ ((kW3.trans' kW4).heap hbb7 trivial) ?_
            clear hK K
            have hx4 := kW4.heap hx3 trivial
            have hz3 := lt_of_heap hx3
            have K74 := kW3.trans' kW4
            have zz := kW3.size
            have blt7 : b < W7.heap.size := lt_of_heap hbb7
            have ha4 : W4.heap[W7.heap.size]? = some (.cells #[.int .i64 0, .int .u32 0, .slice none 0 0, .int .i64 0] 105 (0, 0)) := hx4
            have hc4 : W4.heap[W3.heap.size]? = some (.cells #[.int .i64 0, .int .u32 0, .slice none 0 0, .int .i64 0] 105 (0, 0)) := hy4
            have f4 : ∀ i, W4.frozen? ⟨W7.heap.size, i, none⟩ = false := fun i => frozen_of_heap ha4
            have g0 : W4.cell? ⟨W7.heap.size, 0, none⟩ = some (.int .i64 0) := cell_of_heap ha4
            have g1 : W4.cell? ⟨W7.heap.size, 1, none⟩ = some (.int .u32 0) := cell_of_heap ha4
            have g2 : W4.cell? ⟨W7.heap.size, 2, none⟩ = some (.slice none 0 0) := cell_of_heap ha4
            have g3 : W4.cell? ⟨W7.heap.size, 3, none⟩ = some (.int .i64 0) := cell_of_heap ha4
            refine pt_one (by rfl) (loudly_of (by rfl) (fun K hK => ?_))
            go_wp2
            obtain ⟨W5, hW5⟩ : ∃ W, W = (((W4.setCell ⟨W7.heap.size, 0, none⟩ (.int .i64 (sa : Int))).setCell ⟨W7.heap.size, 1, none⟩ (.int .u32 (ga : Int))).setCell ⟨W7.heap.size, 2, none⟩ (.slice Aa qa.length caa)).setCell ⟨W7.heap.size, 3, none⟩ (.int .i64 (ea : Int)) := ⟨_, rfl⟩
            rw [← hW5]
            have ha5 : W5.heap[W7.heap.size]? = some (.cells #[.int .i64 (sa : Int), .int .u32 (ga : Int), .slice Aa qa.length caa, .int .i64 (ea : Int)] 105 (0, 0)) := by rw [hW5]; exact set_four ha4 _ _ _ _
            have kW5 : Keeps (· ≠ W7.heap.size) W4 W5 := by rw [hW5]; exact keeps_four _ _ _ _
            have hc5 := kW5.heap hc4 (by omega)
            have hbb5 := kW5.heap (K74.heap hbb7 trivial) (by omega)
            clear hW5 f4 g0 g1 g2 g3
            refine hK _ _ hbb5 ?_
            clear hK K
            have f5 : ∀ i, W5.frozen? ⟨W3.heap.size, i, none⟩ = false := fun i => frozen_of_heap hc5
            have g0 : W5.cell? ⟨W3.heap.size, 0, none⟩ = some (.int .i64 0) := cell_of_heap hc5
            have g1 : W5.cell? ⟨W3.heap.size, 1, none⟩ = some (.int .u32 0) := cell_of_heap hc5
            have g2 : W5.cell? ⟨W3.heap.size, 2, none⟩ = some (.slice none 0 0) := cell_of_heap hc5
            have g3 : W5.cell? ⟨W3.heap.size, 3, none⟩ = some (.int .i64 0) := cell_of_heap hc5
            refine pt_one (by rfl) (loudly_of (by rfl) (fun K hK => ?_))
            go_wp2
            obtain ⟨W6, hW6⟩ : ∃ W, W = (((W5.setCell ⟨W3.heap.size, 0, none⟩ (.int .i64 (sb : Int))).setCell ⟨W3.heap.size, 1, none⟩ (.int .u32 (gb : Int))).setCell ⟨W3.heap.size, 2, none⟩ (.slice Ab qb.length cab)).setCell ⟨W3.heap.size, 3, none⟩ (.int .i64 (eb : Int)) := ⟨_, rfl⟩
            rw [← hW6]
            have hc6 : W6.heap[W3.heap.size]? = some (.cells #[.int .i64 (sb : Int), .int .u32 (gb : Int), .slice Ab qb.length cab, .int .i64 (eb : Int)] 105 (0, 0)) := by rw [hW6]; exact set_four hc5 _ _ _ _
            have kW6 : Keeps (· ≠ W3.heap.size) W5 W6 := by rw [hW6]; exact keeps_four _ _ _ _
            have ha6 := kW6.heap ha5 (by omega)
            clear hW6 f5 g0 g1 g2 g3
            refine hK _ _ (kW6.heap hbb5 (by omega)) ?_
            clear hK K
            refine pt_tail (by rfl) ?_
            go_wp2
            refine NoPanic.normal ?_
            go_wp2
            go_meet
            exact ⟨rfl, rfl, _, _, rfl, rfl, ha6, hc6, (K74.trans kW5 fun k hk _ => by show k ≠ W7.heap.size; omega).trans kW6 fun k hk _ => by show k ≠ W3.heap.size; omega, by omega, by omega⟩
          · go_wp2
            obtain ⟨W3, hW3⟩ : ∃ W, W = (W7.alloc (.cells #[.int .i64 0, .int .u32 0, .slice none 0 0, .int .i64 0] 105)).drew := ⟨_, rfl⟩
            rw [← hW3]
            have kW3 : Old W7 W3 := by rw [hW3]; exact ((Keeps.refl _ _).alloc _).drew
            have hx3 : W3.heap[W7.heap.size]? = some (.cells #[.int .i64 0, .int .u32 0, .slice none 0 0, .int .i64 0] 105 (0, 0)) := by rw [hW3]; exact heap_alloc_new _ _
            clear hW3
            refine hK _ _ (kW3.heap hbb7 trivial) ?_
            clear hK K
            refine pt_one (by rfl) (loudly_of (by rfl) (fun K hK => ?_))
            go_wp2
            obtain ⟨W4, hW4⟩ : ∃ W, W = W3.alloc (.cells #[.int .i64 0, .int .u32 0, .slice none 0 0, .int .i64 0] 105) := ⟨_, rfl⟩
            rw [← hW4]
            have kW4 : Old W3 W4 := by rw [hW4]; exact (Keeps.refl _ _).alloc _
            have hy4 : W4.heap[W3.heap.size]? = some (.cells #[.int .i64 0, .int .u32 0, .slice none 0 0, .int .i64 0] 105 (0, 0)) := by rw [hW4]; exact heap_alloc_new _ _
            clear hW4
            refine hK _ _ ((kW3.trans' kW4).heap hbb7 trivial) ?_
            clear hK K
            have hx4 := kW4.heap hx3 trivial
            have hz3 := lt_of_heap hx3
            have K74 := kW3.trans' kW4
            have zz := kW3.size
            have blt7 : b < W7.heap.size := lt_of_heap hbb7
            have ha4 : W4.heap[W3.heap.size]? = some (.cells #[.int .i64 0, .int .u32 0, .slice none 0 0, .int .i64 0] 105 (0, 0)) := hy4
            have hc4 : W4.heap[W7.heap.size]? = some (.cells #[.int .i64 0, .int .u32 0, .slice none 0 0, .int .i64 0] 105 (0, 0)) := hx4
            have f4 : ∀ i, W4.frozen? ⟨W3.heap.size, i, none⟩ = false := fun i => frozen_of_heap ha4
            have g0 : W4.cell? ⟨W3.heap.size, 0, none⟩ = some (.int .i64 0) := cell_of_heap ha4
            have g1 : W4.cell? ⟨W3.heap.size, 1, none⟩ = some (.int .u32 0) := cell_of_heap ha4
            have g2 : W4.cell? ⟨W3.heap.size, 2, none⟩ = some (.slice none 0 0) := cell_of_heap ha4
            have g3 : W4.cell? ⟨W3.heap.size, 3, none⟩ = some (.int .i64 0) := cell_of_heap ha4
            refine pt_one (by rfl) (loudly_of (by rfl) (fun K hK => ?_))
            go_wp2
            obtain ⟨W5, hW5⟩ : ∃ W, W = (((W4.setCell ⟨W3.heap.size, 0, none⟩ (.int .i64 (sa : Int))).setCell ⟨W3.heap.size, 1, none⟩ (.int .u32 (ga : Int))).setCell ⟨W3.heap.size, 2, none⟩ (.slice Aa qa.length caa)).setCell ⟨W3.heap.size, 3, none⟩ (.int .i64 (ea : Int)) := ⟨_, rfl⟩
            rw [← hW5]
            have ha5 : W5.heap[W3.heap.size]? = some (.cells #[.int .i64 (sa : Int), .int .u32 (ga : Int), .slice Aa qa.length caa, .int .i64 (ea : Int)] 105 (0, 0)) := by rw [hW5]; exact set_four ha4 _ _ _ _
            have kW5 : Keeps (· ≠ W3.heap.size) W4 W5 := by rw [hW5]; exact keeps_four _ _ _ _
            have hc5 := kW5.heap hc4 (by omega)
            have hbb5 := kW5.heap (K74.heap hbb7 trivial) (by omega)
            clear hW5 f4 g0 g1 g2 g3
            refine hK _ _ hbb5 ?_
            clear hK K
            have f5 : ∀ i, W5.frozen? ⟨W7.heap.size, i, none⟩ = false := fun i => frozen_of_heap hc5
            have g0 : W5.cell? ⟨W7.heap.size, 0, none⟩ = some (.int .i64 0) := cell_of_heap hc5
            have g1 : W5.cell? ⟨W7.heap.size, 1, none⟩ = some (.int .u32 0) := cell_of_heap hc5
            have g2 : W5.cell? ⟨W7.heap.size, 2, none⟩ = some (.slice none 0 0) := cell_of_heap hc5
            have g3 : W5.cell? ⟨W7.heap.size, 3, none⟩ = some (.int .i64 0) := cell_of_heap hc5
            refine pt_one (by rfl) (loudly_of (by rfl) (fun K hK => ?_))
            go_wp2
            obtain ⟨W6, hW6⟩ : ∃ W, W = (((W5.setCell ⟨W7.heap.size, 0, none⟩ (.int .i64 (sb : Int))).setCell ⟨W7.heap.size, 1, none⟩ (.int .u32 (gb : Int))).setCell ⟨W7.heap.size, 2, none⟩ (.slice Ab qb.length cab)).setCell ⟨W7.heap.size, 3, none⟩ (.int .i64 (eb : Int)) := ⟨_, rfl⟩
            rw [← hW6]
            have hc6 : W6.heap[W7.heap.size]? = some (.cells #[.int .i64 (sb : Int), .int .u32 (gb : Int), .slice Ab qb.length cab, .int .i64 (eb : Int)] 105 (0, 0)) := by rw [hW6]; exact set_four hc5 _ _ _ _
            have kW6 : Keeps (· ≠ W7.heap.size) W5 W6 := by rw [hW6]; exact keeps_four _ _ _ _
            have ha6 := kW6.heap ha5 (by omega)
            clear hW6 f5 g0 g1 g2 g3
            refine hK _ _ (kW6.heap hbb5 (by omega)) ?_
            clear hK K
            refine pt_tail (by rfl) ?_
            go_wp2
            refine NoPanic.normal ?_
            go_wp2
            go_meet
            exact ⟨rfl, rfl, _, _, rfl, rfl, ha6, hc6, (K74.trans kW5 fun k hk _ => by show k ≠ W3.heap.size; omega).trans kW6 fun k hk _ => by show k ≠ W7.heap.size; omega, by omega, by omega⟩
        case rest =>
          obtain ⟨rfl, rfl, ba, bc, rfl, rfl, hba, hbc, k9, hlba, hlbc⟩ := hcut
          have hbl := k9.heap hb7 trivial
          have hb8 := k9.heap hbb7 trivial
          have x0 : wc.cell? ⟨ba, 0, none⟩ = some (.int .i64 (sa : Int)) := cell_of_heap hba
          have x1 : wc.cell? ⟨ba, 1, none⟩ = some (.int .u32 (ga : Int)) := cell_of_heap hba
          have y0 : wc.cell? ⟨bc, 0, none⟩ = some (.int .i64 (sb : Int)) := cell_of_heap hbc
          have y1 : wc.cell? ⟨bc, 1, none⟩ = some (.int .u32 (gb : Int)) := cell_of_heap hbc
          have m3 : wc.cell? ⟨w2.heap.size, 3, none⟩ = some (.int .i64 0) := cell_of_heap hbl
          have mf : ∀ i, wc.frozen? ⟨w2.heap.size, i, none⟩ = false := fun i => frozen_of_heap hbl
          have zl7 := lt_of_heap hb7
          have zc := k9.size
          have end_ : ∀ (W' : World) (jj : Jn) (recs : List (List UInt8)) (L : Value) (ql : List (List UInt8 × Value)),
              W'.heap[w2.heap.size]? = some (.cells #[.slice A6 xs.length ca6, .slice B6 ys.length cb6, .slice none 0 0, .int .i64 (jj.cur : Int), .int .u32 (jj.gen : Int), .int .u32 (jj.nr : Int), .int .i64 (jj.end_ : Int)] 97 (0, 0)) →
              Keeps (· ≠ w2.heap.size) W7 W' → Good jj → jj.dA = xs → jj.dB = ys → jj.ws = [] → ql.map (·.1) = recs → OwnR (fun k => W0.heap.size ≤ k) wr L ql →
              PostLOpen w (some (jj, recs)) (.returned (.tuple #[.pointer (some ⟨w2.heap.size, 0, none⟩), L, .int .i64 0])) W' := fun W' jj recs L ql hh hK hg hjA hjB hjw hql hO => by
            have hKs := hK.size
            have nb : ∀ {v : Value} {n : Nat} {xs : List Value}, W7.ownsRow 0 5 1 v n xs → ∀ k, v.ownBlock = some k → k ≠ w2.heap.size := fun hx k hk e => own_ne_heap hx hb7 (by decide) (by rw [hk, e])
            refine ⟨fun k => wr.heap.size ≤ k ∧ k < W'.heap.size, w2.heap.size, .slice A6 xs.length ca6, .slice B6 ys.length cb6, .slice none 0 0, [], L, ql, rfl,
              ⟨hh, ⟨by rw [hjA]; exact own_keeps hA7.row hK (nb hA7.row), fun k hk => ⟨hA7.foot k hk, Nat.lt_of_lt_of_le (own_lt hA7.row hk) hKs⟩, by rw [hjA]; exact hA7.len⟩, ⟨by rw [hjB]; exact own_keeps hB7.row hK (nb hB7.row), fun k hk => ⟨hB7.foot k hk, Nat.lt_of_lt_of_le (own_lt hB7.row hk) hKs⟩, by rw [hjB]; exact hB7.len⟩, Pend.nil _ _, by rw [hjw]; rfl, hAB, fun x hx => by simp at hx, ⟨by omega, by omega⟩, fun k hk => hk.2, hg⟩,
              fun k hk => by omega, hql, ?_, ?_⟩
            · exact ((hO.mono (G := fun k => W0.heap.size ≤ k ∧ k < wr.heap.size) fun k hk h => ⟨h, hk⟩).keep ((k17.old _).trans hK fun k hk h => by show k ≠ w2.heap.size; omega)).mono fun k _ hk => ⟨by omega, fun h => by omega⟩
            · exact KW.trans hK fun k hk _ => by show k ≠ w2.heap.size; omega
          have END := hid end_
          clear end_
          by_cases hw : sa ≠ 3 ∧ sb ≠ 3
          · obtain ⟨h3a, h3b⟩ := hw
            have j1 : ((sa : Int) == 3) = false := by rw [beq_eq_false_iff_ne]; omega
            have j2 : ((sb : Int) == 3) = false := by rw [beq_eq_false_iff_ne]; omega
            by_cases h2a : sa = 2
            · subst h2a
              go_wp2
              go_ret3
              rw [HOO.out]
              simp [hsb, h3b]
              exact ⟨rfl, KW.trans' k9⟩
            · have j5 : ((sa : Int) == 2) = false := by rw [beq_eq_false_iff_ne]; omega
              by_cases h2b : sb = 2
              · subst h2b
                go_wp2
                go_ret3
                rw [HOO.out]
                simp [hsa, h3a]
                exact ⟨rfl, KW.trans' k9⟩
              · have j6 : ((sb : Int) == 2) = false := by rw [beq_eq_false_iff_ne]; omega
                have hop : openJ (xs, ys) = some (⟨xs, ys, [⟨0, 0, headB 1 0⟩], 0, 1, 0, 16⟩, []) := by
                  rw [HOO.out]
                  simp [hsa, hsb, h3a, h3b, h2a, h2b]
                have hgo := good_open hop
                have hbj : beginJ ⟨xs, ys, [], 0, 0, 0, 0⟩ 1 [] = ⟨xs, ys, [⟨0, 0, headB 1 0⟩], 0, 1, 0, 16⟩ := by simp [beginJ, sizeF, framesB]
                rw [← hbj] at hop hgo
                have hraw : LRaw (fun k => wr.heap.size ≤ k ∧ k < wc.heap.size) wc w2.heap.size (.slice A6 xs.length ca6) (.slice B6 ys.length cb6) (.slice none 0 0) [] ⟨xs, ys, [], 0, 0, 0, 0⟩ :=
                  ⟨hbl, (hA7.keep (k9.old _)).mono fun k hk h => ⟨h, hk⟩, (hB7.keep (k9.old _)).mono fun k hk h => ⟨h, hk⟩, Pend.nil _ _, rfl, hAB, fun x hx => by simp at hx, ⟨by omega, by omega⟩, fun k hk => hk.2⟩
                have hbg := begin_any wc _ S w2.heap.size _ _ _ _ _ none 0 0 1 [] hraw (Rcs.nil _ _ _) rfl (hT.keep ((KW.trans' k9).old (fun _ => True)) trivial) (by decide) (by decide) (by simp) (by simp)
                rw [show ((1 : Nat) : Int) = 1 from rfl] at hbg
                have HOP := hid (And.intro hop hgo)
                clear hop hgo hbj
                go_wp2_with fail
                refine hbg.mono ?_
                rintro e w9 ⟨rfl, F', vP', q', hL, hF', kL⟩
                clear hbg
                go_wp2
                go_ret3
                rw [HOP.out.1]
                have KK : Old w w9 := (KW.trans' k9).trans kL fun k hk _ h => by omega
                exact ⟨F', _, _, _, _, _, _, [], rfl, hL.net HOP.out.2, fun k hk => by
                  rcases hF' k hk with h | h <;> omega, rfl, OwnR.nil _ _, KK⟩
          · by_cases h3b : sb = 3
            · have i2 : ((sb : Int) == 3) = true := by rw [h3b]; rfl
              obtain ⟨b1a, b1b, b1c⟩ := b1 h3b
              have bR : IntKind.u32.wrap (qb.length : Int) = (qb.length : Int) := by
                have hqlen : qb.length = rsb.length := by rw [← hqb]; simp
                rw [IntKind.wrap_u32]; omega
              by_cases h3a : sa = 3
              · have i1 : ((sa : Int) == 3) = true := by rw [h3a]; rfl
                obtain ⟨a1a, a1b, a1c⟩ := a1 h3a
                obtain ⟨dd, hdd⟩ : ∃ dd, dd = (ga + 4294967296 - gb) % 4294967296 := ⟨_, rfl⟩
                obtain ⟨z4, j8⟩ : ∃ z4 : Int, IntKind.u32.wrap ((ga : Int) - (gb : Int)) = z4 := ⟨_, rfl⟩
                have hz4 : z4 = (dd : Int) := by rw [← j8, IntKind.wrap_u32]; omega
                have HZ4 := hid hz4
                have HDD := hid hdd
                clear hz4 hdd
                by_cases hnew : 2147483648 ≤ dd
                · have j12 : z4 ≥ 2147483648 := by have := HZ4.out; omega
                  have bR2 := bR
                  have hop : openJ (xs, ys) = some (⟨xs, ys, [], 1, gb, rsb.length, eb⟩, rsb) := by
                    rw [HOO.out]
                    simp [h3a, h3b, ← HDD.out, hnew]
                  clear h3a h3b hnew a1a a1b a1c b1a b1b b1c a1 b1
                  go_upto_region 20 with fail
                  obtain ⟨W8, hW8⟩ : ∃ W, W = wc.setCell ⟨w2.heap.size, 3, none⟩ (.int .i64 1) := ⟨_, rfl⟩
                  rw [← hW8]
                  have hbl8 : W8.heap[w2.heap.size]? = some (.cells #[.slice A6 xs.length ca6, .slice B6 ys.length cb6, .slice none 0 0, .int .i64 1, .int .u32 0, .int .u32 0, .int .i64 0] 97 (0, 0)) := by
                    rw [hW8, heap_setCell hbl]
                    rfl
                  have k8 : Keeps (· ≠ w2.heap.size) W7 W8 := by rw [hW8]; exact (k9.old _).setCell (fun _ h => h rfl) _
                  have hb88 := ((Keeps.refl (· ≠ w2.heap.size) wc).setCell (p := ⟨w2.heap.size, 3, none⟩) (fun _ h => h rfl) (.int .i64 1)).heap hb8 (by show b ≠ w2.heap.size; omega)
                  rw [← hW8] at hb88
                  clear hW8
                  have n3 : W8.cell? ⟨w2.heap.size, 3, none⟩ = some (.int .i64 1) := cell_of_heap hbl8
                  have q0 : W8.cell? ⟨b, 4, none⟩ = some (.int .i64 (sb : Int)) := cell_of_heap hb88
                  have q1 : W8.cell? ⟨b, 5, none⟩ = some (.int .u32 (gb : Int)) := cell_of_heap hb88
                  have q2 : W8.cell? ⟨b, 6, none⟩ = some (.slice Ab qb.length cab) := cell_of_heap hb88
                  have q3 : W8.cell? ⟨b, 7, none⟩ = some (.int .i64 (eb : Int)) := cell_of_heap hb88
                  go_upto_region 21 with fail
                  obtain ⟨W9, hW9⟩ : ∃ W, W = W8.alloc (.cells #[.int .i64 (sb : Int), .int .u32 (gb : Int), .slice Ab qb.length cab, .int .i64 (eb : Int)] 105) := ⟨_, rfl⟩
                  rw [← hW9]
                  have k89 : Old W8 W9 := by rw [hW9]; exact (Keeps.refl _ _).alloc _
                  have hs9 : W9.heap[W8.heap.size]? = some (.cells #[.int .i64 (sb : Int), .int .u32 (gb : Int), .slice Ab qb.length cab, .int .i64 (eb : Int)] 105 (0, 0)) := by rw [hW9]; exact heap_alloc_new _ _
                  have hbl9 := k89.heap hbl8 trivial
                  have zl8 := lt_of_heap hbl8
                  clear hW9 n3 q0 q1 q2 q3
                  have e4 : W9.cell? ⟨w2.heap.size, 4, none⟩ = some (.int .u32 0) := cell_of_heap hbl9
                  have e5 : W9.cell? ⟨w2.heap.size, 5, none⟩ = some (.int .u32 0) := cell_of_heap hbl9
                  have e6 : W9.cell? ⟨w2.heap.size, 6, none⟩ = some (.int .i64 0) := cell_of_heap hbl9
                  have ef : ∀ i, W9.frozen? ⟨w2.heap.size, i, none⟩ = false := fun i => frozen_of_heap hbl9
                  refine wp_region_tree (fun w' => w'.heap[W8.heap.size]? = some (.cells #[.int .i64 (sb : Int), .int .u32 (gb : Int), .slice Ab qb.length cab, .int .i64 (eb : Int)] 105 (0, 0))) 20
                    (.take 0 (.take 1 (.take 2 (.take 3 (.take 4 (.take 5 (.take 6 (.take 7 (.take 8 (.take 9 (.take 10 (.take 11 (.take 12 (.one 13 (.take 14 (.take 15 (.one 16 (.take 17 (.take 18 (.one 19 .tail)))))))))))))))))))) (by kernel_rfl) (by kernel_rfl) hs9 ?_
                  iterate 13 (refine pt_take (v := ?_) (by rfl) (by rfl) (fun w' hS => ?_) ?_; rotate_left 1; (have s0 : w'.cell? ⟨W8.heap.size, 0, none⟩ = some (.int .i64 (sb : Int)) := cell_of_heap hS; have s1 : w'.cell? ⟨W8.heap.size, 1, none⟩ = some (.int .u32 (gb : Int)) := cell_of_heap hS; have s2 : w'.cell? ⟨W8.heap.size, 2, none⟩ = some (.slice Ab qb.length cab) := cell_of_heap hS; have s3 : w'.cell? ⟨W8.heap.size, 3, none⟩ = some (.int .i64 (eb : Int)) := cell_of_heap hS; clear hS; go_simp <;> (try with_reducible rfl)); (simp only [Act.put, List.setIfInBounds_toArray, List.set_cons_zero, List.set_cons_succ]))
                  refine pt_one (by rfl) (loudly_of (by rfl) (fun K hK => ?_))
                  go_wp2
                  obtain ⟨V1, hV1⟩ : ∃ W, W = (W9.setCell ⟨w2.heap.size, 4, none⟩ (.int .u32 (gb : Int))).drew := ⟨_, rfl⟩
                  rw [← hV1]
                  have kV1 : Keeps (· ≠ w2.heap.size) W9 V1 := by rw [hV1]; exact ((Keeps.refl _ _).setCell (fun _ h => h rfl) _).drew
                  have hv1 : V1.heap[w2.heap.size]? = some (.cells #[.slice A6 xs.length ca6, .slice B6 ys.length cb6, .slice none 0 0, .int .i64 1, .int .u32 (gb : Int), .int .u32 0, .int .i64 0] 97 (0, 0)) := by
                    rw [hV1]
                    show (W9.setCell _ _).heap[_]? = _
                    rw [heap_setCell hbl9]
                    rfl
                  have e5 : V1.cell? ⟨w2.heap.size, 5, none⟩ = some (.int .u32 0) := cell_of_heap hv1
                  have e6 : V1.cell? ⟨w2.heap.size, 6, none⟩ = some (.int .i64 0) := cell_of_heap hv1
                  have ef : ∀ i, V1.frozen? ⟨w2.heap.size, i, none⟩ = false := fun i => frozen_of_heap hv1
                  clear hV1
                  refine hK _ _ (kV1.heap hs9 (by omega)) ?_
                  clear hK K
                  iterate 2 (refine pt_take (v := ?_) (by rfl) (by rfl) (fun w' hS => ?_) ?_; rotate_left 1; (go_simp <;> (try with_reducible rfl)); (simp only [Act.put, List.setIfInBounds_toArray, List.set_cons_zero, List.set_cons_succ]))
                  refine pt_one (by rfl) (loudly_of (by rfl) (fun K hK => ?_))
                  go_wp2
                  obtain ⟨V2, hV2⟩ : ∃ W, W = V1.setCell ⟨w2.heap.size, 5, none⟩ (.int .u32 (qb.length : Int)) := ⟨_, rfl⟩
                  rw [← hV2]
                  have kV2 : Keeps (· ≠ w2.heap.size) V1 V2 := by rw [hV2]; exact ((Keeps.refl _ _).setCell (fun _ h => h rfl) _)
                  have hv2 : V2.heap[w2.heap.size]? = some (.cells #[.slice A6 xs.length ca6, .slice B6 ys.length cb6, .slice none 0 0, .int .i64 1, .int .u32 (gb : Int), .int .u32 (qb.length : Int), .int .i64 0] 97 (0, 0)) := by
                    rw [hV2, heap_setCell hv1]
                    rfl
                  have e6 : V2.cell? ⟨w2.heap.size, 6, none⟩ = some (.int .i64 0) := cell_of_heap hv2
                  have ef : ∀ i, V2.frozen? ⟨w2.heap.size, i, none⟩ = false := fun i => frozen_of_heap hv2
                  clear hV2
                  refine hK _ _ ((kV1.trans' kV2).heap hs9 (by omega)) ?_
                  clear hK K
                  iterate 2 (refine pt_take (v := ?_) (by rfl) (by rfl) (fun w' hS => ?_) ?_; rotate_left 1; (go_simp <;> (try with_reducible rfl)); (simp only [Act.put, List.setIfInBounds_toArray, List.set_cons_zero, List.set_cons_succ]))
                  refine pt_one (by rfl) (loudly_of (by rfl) (fun K hK => ?_))
                  go_wp2
                  obtain ⟨V3, hV3⟩ : ∃ W, W = V2.setCell ⟨w2.heap.size, 6, none⟩ (.int .i64 (eb : Int)) := ⟨_, rfl⟩
                  rw [← hV3]
                  have kV3 : Keeps (· ≠ w2.heap.size) V2 V3 := by rw [hV3]; exact ((Keeps.refl _ _).setCell (fun _ h => h rfl) _)
                  have hv3 : V3.heap[w2.heap.size]? = some (.cells #[.slice A6 xs.length ca6, .slice B6 ys.length cb6, .slice none 0 0, .int .i64 1, .int .u32 (gb : Int), .int .u32 (qb.length : Int), .int .i64 (eb : Int)] 97 (0, 0)) := by
                    rw [hV3, heap_setCell hv2]
                    rfl
                  clear hV3
                  have hs93 := ((kV1.trans' kV2).trans' kV3).heap hs9 (by show W8.heap.size ≠ w2.heap.size; omega)
                  refine hK _ _ hs93 ?_
                  clear hK K e4 e5 e6 ef
                  have hqlen : qb.length = rsb.length := by rw [← hqb]; simp
                  have hgo := good_open hop
                  have K3 : Keeps (· ≠ w2.heap.size) W7 V3 := (((k8.trans' (k89.old _)).trans' kV1).trans' kV2).trans' kV3
                  have fin : ∀ nq, PostLOpen w (openJ (xs, ys)) (.returned (.tuple #[.pointer (some ⟨w2.heap.size, 0, none⟩), .slice Ab qb.length cab, .int .i64 0])) (V3.drewN nq) := fun nq => by
                    rw [hop]
                    refine END.out _ _ _ _ _ ?_ (K3.drewN nq) hgo rfl rfl rfl hqb oB
                    rw [hqlen] at hv3
                    exact hv3
                  have FIN := hid fin
                  clear fin hop hgo hqlen
                  have u2 : V3.cell? ⟨W8.heap.size, 2, none⟩ = some (.slice Ab qb.length cab) := cell_of_heap hs93
                  refine pt_tail (by rfl) ?_
                  go_wp2
                  refine NoPanic.normal ?_
                  go_wp2
                  go_quiet (fail)
                  go_wp2
                  go_ret3
                  exact FIN.out nq
                · have j12 : ¬ z4 ≥ 2147483648 := by have := HZ4.out; omega
                  have bR0 : IntKind.u32.wrap (qa.length : Int) = (qa.length : Int) := by
                    have hqlen : qa.length = rsa.length := by rw [← hqa]; simp
                    rw [IntKind.wrap_u32]; omega
                  have hop : openJ (xs, ys) = some (⟨xs, ys, [], 0, ga, rsa.length, ea⟩, rsa) := by
                    rw [HOO.out]
                    simp [h3a, h3b, ← HDD.out, hnew]
                  clear h3a h3b hnew a1a a1b a1c b1a b1b b1c a1 b1
                  go_upto_region 20 with fail
                  have hbl8 := hbl
                  have k8 : Keeps (· ≠ w2.heap.size) W7 wc := k9.old _
                  have hb88 := hb8
                  have n3 : wc.cell? ⟨w2.heap.size, 3, none⟩ = some (.int .i64 0) := cell_of_heap hbl8
                  have q0 : wc.cell? ⟨b, 0, none⟩ = some (.int .i64 (sa : Int)) := cell_of_heap hb88
                  have q1 : wc.cell? ⟨b, 1, none⟩ = some (.int .u32 (ga : Int)) := cell_of_heap hb88
                  have q2 : wc.cell? ⟨b, 2, none⟩ = some (.slice Aa qa.length caa) := cell_of_heap hb88
                  have q3 : wc.cell? ⟨b, 3, none⟩ = some (.int .i64 (ea : Int)) := cell_of_heap hb88
                  go_upto_region 21 with fail
                  obtain ⟨W9, hW9⟩ : ∃ W, W = wc.alloc (.cells #[.int .i64 (sa : Int), .int .u32 (ga : Int), .slice Aa qa.length caa, .int .i64 (ea : Int)] 105) := ⟨_, rfl⟩
                  rw [← hW9]
                  have k89 : Old wc W9 := by rw [hW9]; exact (Keeps.refl _ _).alloc _
                  have hs9 : W9.heap[wc.heap.size]? = some (.cells #[.int .i64 (sa : Int), .int .u32 (ga : Int), .slice Aa qa.length caa, .int .i64 (ea : Int)] 105 (0, 0)) := by rw [hW9]; exact heap_alloc_new _ _
                  have hbl9 := k89.heap hbl8 trivial
                  have zl8 := lt_of_heap hbl8
                  clear hW9 n3 q0 q1 q2 q3
                  have e4 : W9.cell? ⟨w2.heap.size, 4, none⟩ = some (.int .u32 0) := cell_of_heap hbl9
                  have e5 : W9.cell? ⟨w2.heap.size, 5, none⟩ = some (.int .u32 0) := cell_of_heap hbl9
                  have e6 : W9.cell? ⟨w2.heap.size, 6, none⟩ = some (.int .i64 0) := cell_of_heap hbl9
                  have ef : ∀ i, W9.frozen? ⟨w2.heap.size, i, none⟩ = false := fun i => frozen_of_heap hbl9
                  refine wp_region_tree (fun w' => w'.heap[wc.heap.size]? = some (.cells #[.int .i64 (sa : Int), .int .u32 (ga : Int), .slice Aa qa.length caa, .int .i64 (ea : Int)] 105 (0, 0))) 20
                    (.take 0 (.take 1 (.take 2 (.take 3 (.take 4 (.take 5 (.take 6 (.take 7 (.take 8 (.take 9 (.take 10 (.take 11 (.take 12 (.one 13 (.take 14 (.take 15 (.one 16 (.take 17 (.take 18 (.one 19 .tail)))))))))))))))))))) (by kernel_rfl) (by kernel_rfl) hs9 ?_
                  iterate 13 (refine pt_take (v := ?_) (by rfl) (by rfl) (fun w' hS => ?_) ?_; rotate_left 1; (have s0 : w'.cell? ⟨wc.heap.size, 0, none⟩ = some (.int .i64 (sa : Int)) := cell_of_heap hS; have s1 : w'.cell? ⟨wc.heap.size, 1, none⟩ = some (.int .u32 (ga : Int)) := cell_of_heap hS; have s2 : w'.cell? ⟨wc.heap.size, 2, none⟩ = some (.slice Aa qa.length caa) := cell_of_heap hS; have s3 : w'.cell? ⟨wc.heap.size, 3, none⟩ = some (.int .i64 (ea : Int)) := cell_of_heap hS; clear hS; go_simp <;> (try with_reducible rfl)); (simp only [Act.put, List.setIfInBounds_toArray, List.set_cons_zero, List.set_cons_succ]))
                  refine pt_one (by rfl) (loudly_of (by rfl) (fun K hK => ?_))
                  go_wp2
                  obtain ⟨V1, hV1⟩ : ∃ W, W = (W9.setCell ⟨w2.heap.size, 4, none⟩ (.int .u32 (ga : Int))).drew := ⟨_, rfl⟩
                  rw [← hV1]
                  have kV1 : Keeps (· ≠ w2.heap.size) W9 V1 := by rw [hV1]; exact ((Keeps.refl _ _).setCell (fun _ h => h rfl) _).drew
                  have hv1 : V1.heap[w2.heap.size]? = some (.cells #[.slice A6 xs.length ca6, .slice B6 ys.length cb6, .slice none 0 0, .int .i64 0, .int .u32 (ga : Int), .int .u32 0, .int .i64 0] 97 (0, 0)) := by
                    rw [hV1]
                    show (W9.setCell _ _).heap[_]? = _
                    rw [heap_setCell hbl9]
                    rfl
                  have e5 : V1.cell? ⟨w2.heap.size, 5, none⟩ = some (.int .u32 0) := cell_of_heap hv1
                  have e6 : V1.cell? ⟨w2.heap.size, 6, none⟩ = some (.int .i64 0) := cell_of_heap hv1
                  have ef : ∀ i, V1.frozen? ⟨w2.heap.size, i, none⟩ = false := fun i => frozen_of_heap hv1
                  clear hV1
                  refine hK _ _ (kV1.heap hs9 (by omega)) ?_
                  clear hK K
                  iterate 2 (refine pt_take (v := ?_) (by rfl) (by rfl) (fun w' hS => ?_) ?_; rotate_left 1; (go_simp <;> (try with_reducible rfl)); (simp only [Act.put, List.setIfInBounds_toArray, List.set_cons_zero, List.set_cons_succ]))
                  refine pt_one (by rfl) (loudly_of (by rfl) (fun K hK => ?_))
                  go_wp2
                  obtain ⟨V2, hV2⟩ : ∃ W, W = V1.setCell ⟨w2.heap.size, 5, none⟩ (.int .u32 (qa.length : Int)) := ⟨_, rfl⟩
                  rw [← hV2]
                  have kV2 : Keeps (· ≠ w2.heap.size) V1 V2 := by rw [hV2]; exact ((Keeps.refl _ _).setCell (fun _ h => h rfl) _)
                  have hv2 : V2.heap[w2.heap.size]? = some (.cells #[.slice A6 xs.length ca6, .slice B6 ys.length cb6, .slice none 0 0, .int .i64 0, .int .u32 (ga : Int), .int .u32 (qa.length : Int), .int .i64 0] 97 (0, 0)) := by
                    rw [hV2, heap_setCell hv1]
                    rfl
                  have e6 : V2.cell? ⟨w2.heap.size, 6, none⟩ = some (.int .i64 0) := cell_of_heap hv2
                  have ef : ∀ i, V2.frozen? ⟨w2.heap.size, i, none⟩ = false := fun i => frozen_of_heap hv2
                  clear hV2
                  refine hK _ _ ((kV1.trans' kV2).heap hs9 (by omega)) ?_
                  clear hK K
                  iterate 2 (refine pt_take (v := ?_) (by rfl) (by rfl) (fun w' hS => ?_) ?_; rotate_left 1; (go_simp <;> (try with_reducible rfl)); (simp only [Act.put, List.setIfInBounds_toArray, List.set_cons_zero, List.set_cons_succ]))
                  refine pt_one (by rfl) (loudly_of (by rfl) (fun K hK => ?_))
                  go_wp2
                  obtain ⟨V3, hV3⟩ : ∃ W, W = V2.setCell ⟨w2.heap.size, 6, none⟩ (.int .i64 (ea : Int)) := ⟨_, rfl⟩
                  rw [← hV3]
                  have kV3 : Keeps (· ≠ w2.heap.size) V2 V3 := by rw [hV3]; exact ((Keeps.refl _ _).setCell (fun _ h => h rfl) _)
                  have hv3 : V3.heap[w2.heap.size]? = some (.cells #[.slice A6 xs.length ca6, .slice B6 ys.length cb6, .slice none 0 0, .int .i64 0, .int .u32 (ga : Int), .int .u32 (qa.length : Int), .int .i64 (ea : Int)] 97 (0, 0)) := by
                    rw [hV3, heap_setCell hv2]
                    rfl
                  clear hV3
                  have hs93 := ((kV1.trans' kV2).trans' kV3).heap hs9 (by show wc.heap.size ≠ w2.heap.size; omega)
                  refine hK _ _ hs93 ?_
                  clear hK K e4 e5 e6 ef
                  have hqlen : qa.length = rsa.length := by rw [← hqa]; simp
                  have hgo := good_open hop
                  have K3 : Keeps (· ≠ w2.heap.size) W7 V3 := (((k8.trans' (k89.old _)).trans' kV1).trans' kV2).trans' kV3
                  have fin : ∀ nq, PostLOpen w (openJ (xs, ys)) (.returned (.tuple #[.pointer (some ⟨w2.heap.size, 0, none⟩), .slice Aa qa.length caa, .int .i64 0])) (V3.drewN nq) := fun nq => by
                    rw [hop]
                    refine END.out _ _ _ _ _ ?_ (K3.drewN nq) hgo rfl rfl rfl hqa oA
                    rw [hqlen] at hv3
                    exact hv3
                  have FIN := hid fin
                  clear fin hop hgo hqlen
                  have u2 : V3.cell? ⟨wc.heap.size, 2, none⟩ = some (.slice Aa qa.length caa) := cell_of_heap hs93
                  refine pt_tail (by rfl) ?_
                  go_wp2
                  refine NoPanic.normal ?_
                  go_wp2
                  go_quiet (fail)
                  go_wp2
                  go_ret3
                  exact FIN.out nq
              · have j1 : ((sa : Int) == 3) = false := by rw [beq_eq_false_iff_ne]; omega
                have hop : openJ (xs, ys) = some (⟨xs, ys, [], 1, gb, rsb.length, eb⟩, rsb) := by
                  rw [HOO.out]
                  simp [hsa, h3a, h3b]
                clear h3a h3b b1a b1b b1c a1 b1
                go_upto_region 20 with fail
                obtain ⟨W8, hW8⟩ : ∃ W, W = wc.setCell ⟨w2.heap.size, 3, none⟩ (.int .i64 1) := ⟨_, rfl⟩
                rw [← hW8]
                have hbl8 : W8.heap[w2.heap.size]? = some (.cells #[.slice A6 xs.length ca6, .slice B6 ys.length cb6, .slice none 0 0, .int .i64 1, .int .u32 0, .int .u32 0, .int .i64 0] 97 (0, 0)) := by
                  rw [hW8, heap_setCell hbl]
                  rfl
                have k8 : Keeps (· ≠ w2.heap.size) W7 W8 := by rw [hW8]; exact (k9.old _).setCell (fun _ h => h rfl) _
                have hb88 := ((Keeps.refl (· ≠ w2.heap.size) wc).setCell (p := ⟨w2.heap.size, 3, none⟩) (fun _ h => h rfl) (.int .i64 1)).heap hb8 (by show b ≠ w2.heap.size; omega)
                rw [← hW8] at hb88
                clear hW8
                have n3 : W8.cell? ⟨w2.heap.size, 3, none⟩ = some (.int .i64 1) := cell_of_heap hbl8
                have q0 : W8.cell? ⟨b, 4, none⟩ = some (.int .i64 (sb : Int)) := cell_of_heap hb88
                have q1 : W8.cell? ⟨b, 5, none⟩ = some (.int .u32 (gb : Int)) := cell_of_heap hb88
                have q2 : W8.cell? ⟨b, 6, none⟩ = some (.slice Ab qb.length cab) := cell_of_heap hb88
                have q3 : W8.cell? ⟨b, 7, none⟩ = some (.int .i64 (eb : Int)) := cell_of_heap hb88
                go_upto_region 21 with fail
                obtain ⟨W9, hW9⟩ : ∃ W, W = W8.alloc (.cells #[.int .i64 (sb : Int), .int .u32 (gb : Int), .slice Ab qb.length cab, .int .i64 (eb : Int)] 105) := ⟨_, rfl⟩
                rw [← hW9]
                have k89 : Old W8 W9 := by rw [hW9]; exact (Keeps.refl _ _).alloc _
                have hs9 : W9.heap[W8.heap.size]? = some (.cells #[.int .i64 (sb : Int), .int .u32 (gb : Int), .slice Ab qb.length cab, .int .i64 (eb : Int)] 105 (0, 0)) := by rw [hW9]; exact heap_alloc_new _ _
                have hbl9 := k89.heap hbl8 trivial
                have zl8 := lt_of_heap hbl8
                clear hW9 n3 q0 q1 q2 q3
                have e4 : W9.cell? ⟨w2.heap.size, 4, none⟩ = some (.int .u32 0) := cell_of_heap hbl9
                have e5 : W9.cell? ⟨w2.heap.size, 5, none⟩ = some (.int .u32 0) := cell_of_heap hbl9
                have e6 : W9.cell? ⟨w2.heap.size, 6, none⟩ = some (.int .i64 0) := cell_of_heap hbl9
                have ef : ∀ i, W9.frozen? ⟨w2.heap.size, i, none⟩ = false := fun i => frozen_of_heap hbl9
                refine wp_region_tree (fun w' => w'.heap[W8.heap.size]? = some (.cells #[.int .i64 (sb : Int), .int .u32 (gb : Int), .slice Ab qb.length cab, .int .i64 (eb : Int)] 105 (0, 0))) 20
                  (.take 0 (.take 1 (.take 2 (.take 3 (.take 4 (.take 5 (.take 6 (.take 7 (.take 8 (.take 9 (.take 10 (.take 11 (.take 12 (.one 13 (.take 14 (.take 15 (.one 16 (.take 17 (.take 18 (.one 19 .tail)))))))))))))))))))) (by kernel_rfl) (by kernel_rfl) hs9 ?_
                iterate 13 (refine pt_take (v := ?_) (by rfl) (by rfl) (fun w' hS => ?_) ?_; rotate_left 1; (have s0 : w'.cell? ⟨W8.heap.size, 0, none⟩ = some (.int .i64 (sb : Int)) := cell_of_heap hS; have s1 : w'.cell? ⟨W8.heap.size, 1, none⟩ = some (.int .u32 (gb : Int)) := cell_of_heap hS; have s2 : w'.cell? ⟨W8.heap.size, 2, none⟩ = some (.slice Ab qb.length cab) := cell_of_heap hS; have s3 : w'.cell? ⟨W8.heap.size, 3, none⟩ = some (.int .i64 (eb : Int)) := cell_of_heap hS; clear hS; go_simp <;> (try with_reducible rfl)); (simp only [Act.put, List.setIfInBounds_toArray, List.set_cons_zero, List.set_cons_succ]))
                refine pt_one (by rfl) (loudly_of (by rfl) (fun K hK => ?_))
                go_wp2
                obtain ⟨V1, hV1⟩ : ∃ W, W = (W9.setCell ⟨w2.heap.size, 4, none⟩ (.int .u32 (gb : Int))).drew := ⟨_, rfl⟩
                rw [← hV1]
                have kV1 : Keeps (· ≠ w2.heap.size) W9 V1 := by rw [hV1]; exact ((Keeps.refl _ _).setCell (fun _ h => h rfl) _).drew
                have hv1 : V1.heap[w2.heap.size]? = some (.cells #[.slice A6 xs.length ca6, .slice B6 ys.length cb6, .slice none 0 0, .int .i64 1, .int .u32 (gb : Int), .int .u32 0, .int .i64 0] 97 (0, 0)) := by
                  rw [hV1]
                  show (W9.setCell _ _).heap[_]? = _
                  rw [heap_setCell hbl9]
                  rfl
                have e5 : V1.cell? ⟨w2.heap.size, 5, none⟩ = some (.int .u32 0) := cell_of_heap hv1
                have e6 : V1.cell? ⟨w2.heap.size, 6, none⟩ = some (.int .i64 0) := cell_of_heap hv1
                have ef : ∀ i, V1.frozen? ⟨w2.heap.size, i, none⟩ = false := fun i => frozen_of_heap hv1
                clear hV1
                refine hK _ _ (kV1.heap hs9 (by omega)) ?_
                clear hK K
                iterate 2 (refine pt_take (v := ?_) (by rfl) (by rfl) (fun w' hS => ?_) ?_; rotate_left 1; (go_simp <;> (try with_reducible rfl)); (simp only [Act.put, List.setIfInBounds_toArray, List.set_cons_zero, List.set_cons_succ]))
                refine pt_one (by rfl) (loudly_of (by rfl) (fun K hK => ?_))
                go_wp2
                obtain ⟨V2, hV2⟩ : ∃ W, W = V1.setCell ⟨w2.heap.size, 5, none⟩ (.int .u32 (qb.length : Int)) := ⟨_, rfl⟩
                rw [← hV2]
                have kV2 : Keeps (· ≠ w2.heap.size) V1 V2 := by rw [hV2]; exact ((Keeps.refl _ _).setCell (fun _ h => h rfl) _)
                have hv2 : V2.heap[w2.heap.size]? = some (.cells #[.slice A6 xs.length ca6, .slice B6 ys.length cb6, .slice none 0 0, .int .i64 1, .int .u32 (gb : Int), .int .u32 (qb.length : Int), .int .i64 0] 97 (0, 0)) := by
                  rw [hV2, heap_setCell hv1]
                  rfl
                have e6 : V2.cell? ⟨w2.heap.size, 6, none⟩ = some (.int .i64 0) := cell_of_heap hv2
                have ef : ∀ i, V2.frozen? ⟨w2.heap.size, i, none⟩ = false := fun i => frozen_of_heap hv2
                clear hV2
                refine hK _ _ ((kV1.trans' kV2).heap hs9 (by omega)) ?_
                clear hK K
                iterate 2 (refine pt_take (v := ?_) (by rfl) (by rfl) (fun w' hS => ?_) ?_; rotate_left 1; (go_simp <;> (try with_reducible rfl)); (simp only [Act.put, List.setIfInBounds_toArray, List.set_cons_zero, List.set_cons_succ]))
                refine pt_one (by rfl) (loudly_of (by rfl) (fun K hK => ?_))
                go_wp2
                obtain ⟨V3, hV3⟩ : ∃ W, W = V2.setCell ⟨w2.heap.size, 6, none⟩ (.int .i64 (eb : Int)) := ⟨_, rfl⟩
                rw [← hV3]
                have kV3 : Keeps (· ≠ w2.heap.size) V2 V3 := by rw [hV3]; exact ((Keeps.refl _ _).setCell (fun _ h => h rfl) _)
                have hv3 : V3.heap[w2.heap.size]? = some (.cells #[.slice A6 xs.length ca6, .slice B6 ys.length cb6, .slice none 0 0, .int .i64 1, .int .u32 (gb : Int), .int .u32 (qb.length : Int), .int .i64 (eb : Int)] 97 (0, 0)) := by
                  rw [hV3, heap_setCell hv2]
                  rfl
                clear hV3
                have hs93 := ((kV1.trans' kV2).trans' kV3).heap hs9 (by show W8.heap.size ≠ w2.heap.size; omega)
                refine hK _ _ hs93 ?_
                clear hK K e4 e5 e6 ef
                have hqlen : qb.length = rsb.length := by rw [← hqb]; simp
                have hgo := good_open hop
                have K3 : Keeps (· ≠ w2.heap.size) W7 V3 := (((k8.trans' (k89.old _)).trans' kV1).trans' kV2).trans' kV3
                have fin : ∀ nq, PostLOpen w (openJ (xs, ys)) (.returned (.tuple #[.pointer (some ⟨w2.heap.size, 0, none⟩), .slice Ab qb.length cab, .int .i64 0])) (V3.drewN nq) := fun nq => by
                  rw [hop]
                  refine END.out _ _ _ _ _ ?_ (K3.drewN nq) hgo rfl rfl rfl hqb oB
                  rw [hqlen] at hv3
                  exact hv3
                have FIN := hid fin
                clear fin hop hgo hqlen
                have u2 : V3.cell? ⟨W8.heap.size, 2, none⟩ = some (.slice Ab qb.length cab) := cell_of_heap hs93
                refine pt_tail (by rfl) ?_
                go_wp2
                refine NoPanic.normal ?_
                go_wp2
                go_quiet (fail)
                go_wp2
                go_ret3
                exact FIN.out nq
            · have h3a : sa = 3 := Decidable.not_not.1 fun e => hw ⟨e, h3b⟩
              have i1 : ((sa : Int) == 3) = true := by rw [h3a]; rfl
              obtain ⟨a1a, a1b, a1c⟩ := a1 h3a
              have j2 : ((sb : Int) == 3) = false := by rw [beq_eq_false_iff_ne]; omega
              have bR0 : IntKind.u32.wrap (qa.length : Int) = (qa.length : Int) := by
                have hqlen : qa.length = rsa.length := by rw [← hqa]; simp
                rw [IntKind.wrap_u32]; omega
              have hop : openJ (xs, ys) = some (⟨xs, ys, [], 0, ga, rsa.length, ea⟩, rsa) := by
                rw [HOO.out]
                simp [hsb, h3b, h3a]
              clear h3a h3b a1a a1b a1c a1 b1
              go_upto_region 20 with fail
              have hbl8 := hbl
              have k8 : Keeps (· ≠ w2.heap.size) W7 wc := k9.old _
              have hb88 := hb8
              have n3 : wc.cell? ⟨w2.heap.size, 3, none⟩ = some (.int .i64 0) := cell_of_heap hbl8
              have q0 : wc.cell? ⟨b, 0, none⟩ = some (.int .i64 (sa : Int)) := cell_of_heap hb88
              have q1 : wc.cell? ⟨b, 1, none⟩ = some (.int .u32 (ga : Int)) := cell_of_heap hb88
              have q2 : wc.cell? ⟨b, 2, none⟩ = some (.slice Aa qa.length caa) := cell_of_heap hb88
              have q3 : wc.cell? ⟨b, 3, none⟩ = some (.int .i64 (ea : Int)) := cell_of_heap hb88
              go_upto_region 21 with fail
              obtain ⟨W9, hW9⟩ : ∃ W, W = wc.alloc (.cells #[.int .i64 (sa : Int), .int .u32 (ga : Int), .slice Aa qa.length caa, .int .i64 (ea : Int)] 105) := ⟨_, rfl⟩
              rw [← hW9]
              have k89 : Old wc W9 := by rw [hW9]; exact (Keeps.refl _ _).alloc _
              have hs9 : W9.heap[wc.heap.size]? = some (.cells #[.int .i64 (sa : Int), .int .u32 (ga : Int), .slice Aa qa.length caa, .int .i64 (ea : Int)] 105 (0, 0)) := by rw [hW9]; exact heap_alloc_new _ _
              have hbl9 := k89.heap hbl8 trivial
              have zl8 := lt_of_heap hbl8
              clear hW9 n3 q0 q1 q2 q3
              have e4 : W9.cell? ⟨w2.heap.size, 4, none⟩ = some (.int .u32 0) := cell_of_heap hbl9
              have e5 : W9.cell? ⟨w2.heap.size, 5, none⟩ = some (.int .u32 0) := cell_of_heap hbl9
              have e6 : W9.cell? ⟨w2.heap.size, 6, none⟩ = some (.int .i64 0) := cell_of_heap hbl9
              have ef : ∀ i, W9.frozen? ⟨w2.heap.size, i, none⟩ = false := fun i => frozen_of_heap hbl9
              refine wp_region_tree (fun w' => w'.heap[wc.heap.size]? = some (.cells #[.int .i64 (sa : Int), .int .u32 (ga : Int), .slice Aa qa.length caa, .int .i64 (ea : Int)] 105 (0, 0))) 20
                (.take 0 (.take 1 (.take 2 (.take 3 (.take 4 (.take 5 (.take 6 (.take 7 (.take 8 (.take 9 (.take 10 (.take 11 (.take 12 (.one 13 (.take 14 (.take 15 (.one 16 (.take 17 (.take 18 (.one 19 .tail)))))))))))))))))))) (by kernel_rfl) (by kernel_rfl) hs9 ?_
              iterate 13 (refine pt_take (v := ?_) (by rfl) (by rfl) (fun w' hS => ?_) ?_; rotate_left 1; (have s0 : w'.cell? ⟨wc.heap.size, 0, none⟩ = some (.int .i64 (sa : Int)) := cell_of_heap hS; have s1 : w'.cell? ⟨wc.heap.size, 1, none⟩ = some (.int .u32 (ga : Int)) := cell_of_heap hS; have s2 : w'.cell? ⟨wc.heap.size, 2, none⟩ = some (.slice Aa qa.length caa) := cell_of_heap hS; have s3 : w'.cell? ⟨wc.heap.size, 3, none⟩ = some (.int .i64 (ea : Int)) := cell_of_heap hS; clear hS; go_simp <;> (try with_reducible rfl)); (simp only [Act.put, List.setIfInBounds_toArray, List.set_cons_zero, List.set_cons_succ]))
              refine pt_one (by rfl) (loudly_of (by rfl) (fun K hK => ?_))
              go_wp2
              obtain ⟨V1, hV1⟩ : ∃ W, W = (W9.setCell ⟨w2.heap.size, 4, none⟩ (.int .u32 (ga : Int))).drew := ⟨_, rfl⟩
              rw [← hV1]
              have kV1 : Keeps (· ≠ w2.heap.size) W9 V1 := by rw [hV1]; exact ((Keeps.refl _ _).setCell (fun _ h => h rfl) _).drew
              have hv1 : V1.heap[w2.heap.size]? = some (.cells #[.slice A6 xs.length ca6, .slice B6 ys.length cb6, .slice none 0 0, .int .i64 0, .int .u32 (ga : Int), .int .u32 0, .int .i64 0] 97 (0, 0)) := by
                rw [hV1]
                show (W9.setCell _ _).heap[_]? = _
                rw [heap_setCell hbl9]
                rfl
              have e5 : V1.cell? ⟨w2.heap.size, 5, none⟩ = some (.int .u32 0) := cell_of_heap hv1
              have e6 : V1.cell? ⟨w2.heap.size, 6, none⟩ = some (.int .i64 0) := cell_of_heap hv1
              have ef : ∀ i, V1.frozen? ⟨w2.heap.size, i, none⟩ = false := fun i => frozen_of_heap hv1
              clear hV1
              refine hK _ _ (kV1.heap hs9 (by omega)) ?_
              clear hK K
              iterate 2 (refine pt_take (v := ?_) (by rfl) (by rfl) (fun w' hS => ?_) ?_; rotate_left 1; (go_simp <;> (try with_reducible rfl)); (simp only [Act.put, List.setIfInBounds_toArray, List.set_cons_zero, List.set_cons_succ]))
              refine pt_one (by rfl) (loudly_of (by rfl) (fun K hK => ?_))
              go_wp2
              obtain ⟨V2, hV2⟩ : ∃ W, W = V1.setCell ⟨w2.heap.size, 5, none⟩ (.int .u32 (qa.length : Int)) := ⟨_, rfl⟩
              rw [← hV2]
              have kV2 : Keeps (· ≠ w2.heap.size) V1 V2 := by rw [hV2]; exact ((Keeps.refl _ _).setCell (fun _ h => h rfl) _)
              have hv2 : V2.heap[w2.heap.size]? = some (.cells #[.slice A6 xs.length ca6, .slice B6 ys.length cb6, .slice none 0 0, .int .i64 0, .int .u32 (ga : Int), .int .u32 (qa.length : Int), .int .i64 0] 97 (0, 0)) := by
                rw [hV2, heap_setCell hv1]
                rfl
              have e6 : V2.cell? ⟨w2.heap.size, 6, none⟩ = some (.int .i64 0) := cell_of_heap hv2
              have ef : ∀ i, V2.frozen? ⟨w2.heap.size, i, none⟩ = false := fun i => frozen_of_heap hv2
              clear hV2
              refine hK _ _ ((kV1.trans' kV2).heap hs9 (by omega)) ?_
              clear hK K
              iterate 2 (refine pt_take (v := ?_) (by rfl) (by rfl) (fun w' hS => ?_) ?_; rotate_left 1; (go_simp <;> (try with_reducible rfl)); (simp only [Act.put, List.setIfInBounds_toArray, List.set_cons_zero, List.set_cons_succ]))
              refine pt_one (by rfl) (loudly_of (by rfl) (fun K hK => ?_))
              go_wp2
              obtain ⟨V3, hV3⟩ : ∃ W, W = V2.setCell ⟨w2.heap.size, 6, none⟩ (.int .i64 (ea : Int)) := ⟨_, rfl⟩
              rw [← hV3]
              have kV3 : Keeps (· ≠ w2.heap.size) V2 V3 := by rw [hV3]; exact ((Keeps.refl _ _).setCell (fun _ h => h rfl) _)
              have hv3 : V3.heap[w2.heap.size]? = some (.cells #[.slice A6 xs.length ca6, .slice B6 ys.length cb6, .slice none 0 0, .int .i64 0, .int .u32 (ga : Int), .int .u32 (qa.length : Int), .int .i64 (ea : Int)] 97 (0, 0)) := by
                rw [hV3, heap_setCell hv2]
                rfl
              clear hV3
              have hs93 := ((kV1.trans' kV2).trans' kV3).heap hs9 (by show wc.heap.size ≠ w2.heap.size; omega)
              refine hK _ _ hs93 ?_
              clear hK K e4 e5 e6 ef
              have hqlen : qa.length = rsa.length := by rw [← hqa]; simp
              have hgo := good_open hop
              have K3 : Keeps (· ≠ w2.heap.size) W7 V3 := (((k8.trans' (k89.old _)).trans' kV1).trans' kV2).trans' kV3
              have fin : ∀ nq, PostLOpen w (openJ (xs, ys)) (.returned (.tuple #[.pointer (some ⟨w2.heap.size, 0, none⟩), .slice Aa qa.length caa, .int .i64 0])) (V3.drewN nq) := fun nq => by
                rw [hop]
                refine END.out _ _ _ _ _ ?_ (K3.drewN nq) hgo rfl rfl rfl hqa oA
                rw [hqlen] at hv3
                exact hv3
              have FIN := hid fin
              clear fin hop hgo hqlen
              have u2 : V3.cell? ⟨wc.heap.size, 2, none⟩ = some (.slice Aa qa.length caa) := cell_of_heap hs93
              refine pt_tail (by rfl) ?_
              go_wp2
              refine NoPanic.normal ?_
              go_wp2
              go_quiet (fail)
              go_wp2
              go_ret3
              exact FIN.out nq
end Go.Proofs.YtdpaaoeipconcaaDoor
