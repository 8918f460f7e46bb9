/- weftref12.Open: a disk is read: openJ. Conditions: the disk can be read. -/
import Derived.Test.YtdpaaoeipconcaaDoorJRCrash
import Derived.Test.YtdpaaoeipconcaaDoorJRead
import Derived.Test.YtdpaaoeipconcaaDoorJOpenP
namespace Go.Proofs.YtdpaaoeipconcaaDoor
open Go.RowKit

/-- Behind the document's Open. -/
def PostROpen (w : World) (r : Option (Jn × List (List UInt8))) (e : Ending) (w' : World) : Prop :=
  match r with
  | none => e = .returned (.tuple #[.pointer none, .slice none 0 0, .int .i64 120]) ∧ Old w w'
  | some (j, recs) => ∃ F g vA vB vP q L ql, e = .returned (.tuple #[.pointer (some ⟨g, 0, none⟩), L, .int .i64 0]) ∧ RNet F w' g vA vB vP q j ∧ (∀ k, F k → w.heap.size ≤ k) ∧ ql.map (·.1) = recs ∧ OwnR (fun k => w.heap.size ≤ k ∧ ¬ F k) w' L ql ∧ Old w w'

/-- A new journal: its first write is the head of area A. -/
theorem rnet_first {F : Nat → Prop} {w3 w4 : World} {g : Nat} {vA vB v2 x : Value} {xs ys bs : List UInt8}
    (hh : w3.heap[g]? = some (.cells #[vA, vB, .slice none 0 0, .int .i64 0, .int .i64 1, .int .i64 0, .int .i64 16] 91 (0, 0)))
    (hA : OwnB F w3 vA xs) (hB : OwnB F w3 vB ys) (hv : OwnB F w3 x bs) (hfg : F g) (K : Old w3 w4) (hown : w4.ownsRow 0 93 3 v2 1 [.int .i64 0, .int .i64 0, x])
    (hat : ∀ k, v2.ownBlock = some k → F k) (hgood : Good ⟨xs, ys, [⟨0, 0, bs⟩], 0, 1, 0, 16⟩) :
    RNet (fun k => F k ∧ k < (w4.setCell ⟨g, 2, none⟩ v2).heap.size) (w4.setCell ⟨g, 2, none⟩ v2) g vA vB v2 [(⟨0, 0, bs⟩, x)] ⟨xs, ys, [⟨0, 0, bs⟩], 0, 1, 0, 16⟩ := by
  have hh4 := K.heap hh trivial
  have KS : Keeps (· ≠ g) w4 (w4.setCell ⟨g, 2, none⟩ v2) := (Keeps.refl _ _).setCell (fun _ h => h rfl) _
  have KB : Keeps (· ≠ g) w3 (w4.setCell ⟨g, 2, none⟩ v2) := (K.old _).trans' KS
  have nb : ∀ {v : Value} {n : Nat} {xs : List Value}, w3.ownsRow 0 5 1 v n xs → ∀ k, v.ownBlock = some k → k ≠ g := fun hx k hk e => own_ne_heap hx hh (by decide) (by rw [hk, e])
  have ob : ∀ {v : Value} {bs : List UInt8}, OwnB F w3 v bs → OwnB (fun k => F k ∧ k < (w4.setCell ⟨g, 2, none⟩ v2).heap.size) (w4.setCell ⟨g, 2, none⟩ v2) v bs := fun h =>
    ⟨own_keeps h.row KB (nb h.row), fun k hk => ⟨h.foot k hk, own_lt (own_keeps h.row KB (nb h.row)) hk⟩, h.len⟩
  have hown' := own_keeps hown KS (fun k hk e => own_ne_heap hown hh4 (by decide) (by rw [hk, e]))
  have hhf : (w4.setCell ⟨g, 2, none⟩ v2).heap[g]? = some (.cells #[vA, vB, v2, .int .i64 0, .int .i64 1, .int .i64 0, .int .i64 16] 91 (0, 0)) := by
    rw [heap_setCell hh4]
    rfl
  exact ⟨hhf, ob hA, ob hB, ⟨hown', fun y hy => by
    obtain rfl : y = (⟨0, 0, bs⟩, x) := by simpa using hy
    exact ob hv, fun k hk => ⟨hat k hk, own_lt hown' hk⟩⟩, rfl, ⟨hfg, lt_of_heap hhf⟩, fun k hk => hk.2, hgood⟩

set_option maxRecDepth 10000 in
set_option maxHeartbeats 4000000 in
theorem ropen_any (w : World) (S : Nat → Prop) (A B : Option Addr) (n m c d : Nat) (xs ys : List UInt8) (ha : Bts S w A xs) (hb : Bts S w B ys) (hn : n = xs.length) (hm : m = ys.length) (hc : n ≤ c) (hd : m ≤ d) :
    Calls Tryd.prog 47 #[.agg #[.slice A n c, .slice B m d]] w (PostROpen w (openJ (xs, ys))) := by
  obtain ⟨W0, hW0⟩ : ∃ W, W = w.alloc (.cells #[.slice A n c, .slice B m d] 24) := ⟨_, rfl⟩
  have k0 : Old w W0 := by rw [hW0]; exact (Keeps.refl _ _).alloc _
  have hb0 : W0.heap[w.heap.size]? = some (.cells #[.slice A n c, .slice B m d] 24 (0, 0)) := by rw [hW0]; exact heap_alloc_new _ _
  have c0 : W0.cell? ⟨w.heap.size, 0, none⟩ = some (.slice A n c) := cell_of_heap hb0
  have HN := hid hn
  have HM := hid hm
  have hc' := hc
  have hd' := hd
  have hra := read_any W0 S A n c xs (ha.keep (k0.old _)) hn hc
  have hrb : ∀ W, Old w W → Calls Tryd.prog 69 #[.slice B m d] W (PostRead W (readA ys)) := fun W hW => read_any W S B m d ys (hb.keep (hW.old _)) hm hd
  have HRB := hid hrb
  clear hrb hn hm
  obtain ⟨a1, a2, a3⟩ := readA_ok xs
  obtain ⟨b1, b2, b3⟩ := readA_ok ys
  go_enter Tryd.func47, Tryd.ntmps47
  go_upto_region 1 with fail
  rw [← hW0]
  clear hW0
  go_wp2_with fail
  refine hra.mono ?_
  rintro e w1 ⟨La, qa, rfl, hqa, hoa, k1⟩
  clear hra
  have hoo : openJ (xs, ys) = (let a := readA xs; let b := readA ys
    if a.state = 1 ∨ b.state = 1 then none
    else if a.state ≠ 3 ∧ b.state ≠ 3 then (if a.state = 2 ∨ b.state = 2 then none else some (⟨xs, ys, [⟨0, 0, headB 1 0⟩], 0, 1, 0, 16⟩, []))
    else if a.state ≠ 3 ∨ (b.state = 3 ∧ 2147483648 ≤ (a.gen + 4294967296 - b.gen) % 4294967296) then some (⟨xs, ys, [], 1, b.gen, b.recs.length, b.end_⟩, b.recs)
    else some (⟨xs, ys, [], 0, a.gen, a.recs.length, a.end_⟩, a.recs)) := rfl
  have HOO := hid hoo
  clear hoo
  generalize readA xs = ra at *
  generalize readA ys = rb at *
  obtain ⟨sa, ga, rsa, ea⟩ := ra
  obtain ⟨sb, gb, rsb, eb⟩ := rb
  simp only at a1 a2 a3 b1 b2 b3 hqa
  obtain ⟨Aa, caa, rfl, hcaa, _⟩ := own_slice hoa.row
  go_upto_region 2 with fail
  obtain ⟨W1, hW1⟩ : ∃ W, W = w1.alloc (.cells #[.int .i64 (sa : Int), .int .i64 (ga : Int), .slice Aa qa.length caa, .int .i64 (ea : Int)] 112) := ⟨_, rfl⟩
  rw [← hW1]
  have k2 : Old w1 W1 := by rw [hW1]; exact (Keeps.refl _ _).alloc _
  have hb5 : W1.heap[w1.heap.size]? = some (.cells #[.int .i64 (sa : Int), .int .i64 (ga : Int), .slice Aa qa.length caa, .int .i64 (ea : Int)] 112 (0, 0)) := by rw [hW1]; exact heap_alloc_new _ _
  clear hW1
  have c1 : W1.cell? ⟨w.heap.size, 1, none⟩ = some (.slice B m d) := cell_of_heap ((k1.trans' k2).heap hb0 trivial)
  have hrb := HRB.out W1 ((k0.trans' k1).trans' k2)
  clear HRB
  go_wp2_with fail
  refine hrb.mono ?_
  rintro e w2 ⟨Lb, qb, rfl, hqb, hob, k3⟩
  clear hrb
  simp only at hqb
  obtain ⟨Ab, cab, rfl, hcab, _⟩ := own_slice hob.row
  go_upto_region 3 with fail
  obtain ⟨W2, hW2⟩ : ∃ W, W = w2.alloc (.cells #[.int .i64 (sb : Int), .int .i64 (gb : Int), .slice Ab qb.length cab, .int .i64 (eb : Int)] 112) := ⟨_, rfl⟩
  rw [← hW2]
  have k4 : Old w2 W2 := by rw [hW2]; exact (Keeps.refl _ _).alloc _
  have hb6 : W2.heap[w2.heap.size]? = some (.cells #[.int .i64 (sb : Int), .int .i64 (gb : Int), .slice Ab qb.length cab, .int .i64 (eb : Int)] 112 (0, 0)) := by rw [hW2]; exact heap_alloc_new _ _
  clear hW2
  have K5 : Old w W2 := (((k0.trans' k1).trans' k2).trans' k3).trans' k4
  have hb52 := (k3.trans' k4).heap hb5 trivial
  have hb02 := ((k1.trans' k2).trans' (k3.trans' k4)).heap hb0 trivial
  have oA := hoa.keep (((k2.trans' k3).trans' k4).old _)
  have oB := hob.keep (k4.old _)
  obtain ⟨g5, hg5⟩ : ∃ g5, g5 = w1.heap.size := ⟨_, rfl⟩
  obtain ⟨g6, hg6⟩ : ∃ g6, g6 = w2.heap.size := ⟨_, rfl⟩
  rw [← hg5] at hb52 ⊢
  rw [← hg6] at hb6 ⊢
  clear hg5 hg6
  have p0 : W2.cell? ⟨g5, 0, none⟩ = some (.int .i64 (sa : Int)) := cell_of_heap hb52
  have p1 : W2.cell? ⟨g5, 1, none⟩ = some (.int .i64 (ga : Int)) := cell_of_heap hb52
  have p2 : W2.cell? ⟨g5, 2, none⟩ = some (.slice Aa qa.length caa) := cell_of_heap hb52
  have p3 : W2.cell? ⟨g5, 3, none⟩ = some (.int .i64 (ea : Int)) := cell_of_heap hb52
  have q0 : W2.cell? ⟨g6, 0, none⟩ = some (.int .i64 (sb : Int)) := cell_of_heap hb6
  have q1 : W2.cell? ⟨g6, 1, none⟩ = some (.int .i64 (gb : Int)) := cell_of_heap hb6
  have q2 : W2.cell? ⟨g6, 2, none⟩ = some (.slice Ab qb.length cab) := cell_of_heap hb6
  have q3 : W2.cell? ⟨g6, 3, none⟩ = some (.int .i64 (eb : Int)) := cell_of_heap hb6
  have r0 : W2.cell? ⟨w.heap.size, 0, none⟩ = some (.slice A n c) := cell_of_heap hb02
  have r1 : W2.cell? ⟨w.heap.size, 1, none⟩ = some (.slice B m d) := cell_of_heap hb02
  have hs0 : w.heap.size ≤ W0.heap.size := k0.size
  have hs1 : w.heap.size ≤ W1.heap.size := ((k0.trans' k1).trans' k2).size
  clear c0 c1 hb0 hb5 k0 k1 k2 k3 k4
  by_cases hsa : sa = 1
  · subst hsa
    go_wp2
    go_ret3
    rw [HOO.out]
    simp only [true_or, if_true]
    exact ⟨rfl, K5⟩
  · by_cases hsb : sb = 1
    · subst hsb
      have i1 : ((sa : Int) == 1) = false := by rw [beq_eq_false_iff_ne]; omega
      go_wp2
      go_ret3
      rw [HOO.out]
      simp only [or_true, if_true]
      exact ⟨rfl, K5⟩
    · have la := a2 hsa
      have lb := b2 hsb
      have i1 : ((sa : Int) == 1) = false := by rw [beq_eq_false_iff_ne]; omega
      have i2 : ((sb : Int) == 1) = false := by rw [beq_eq_false_iff_ne]; omega
      have hcp := copied_any W2 S S A B n m c d xs ys (ha.keep (K5.old _)) (hb.keep (K5.old _)) HN.out HM.out la lb
      go_wp2_with fail
      refine hcp.mono ?_
      rintro e w6 ⟨vA, vB, rfl, hA, hB, hAB, k6⟩
      clear hcp
      obtain ⟨A6, ca6, rfl, _, _⟩ := hA.slice
      obtain ⟨B6, cb6, rfl, _, _⟩ := hB.slice
      simp only at hA hB
      go_upto_region 6 with fail
      obtain ⟨W7, hW7⟩ : ∃ W, W = w6.alloc (.cells #[.slice A6 xs.length ca6, .slice B6 ys.length cb6, .slice none 0 0, .int .i64 0, .int .i64 0, .int .i64 0, .int .i64 0] 91) := ⟨_, rfl⟩
      rw [← hW7]
      have k7 : Old w6 W7 := by rw [hW7]; exact (Keeps.refl _ _).alloc _
      have hb7 : W7.heap[w6.heap.size]? = some (.cells #[.slice A6 xs.length ca6, .slice B6 ys.length cb6, .slice none 0 0, .int .i64 0, .int .i64 0, .int .i64 0, .int .i64 0] 91 (0, 0)) := by rw [hW7]; exact heap_alloc_new _ _
      clear hW7
      have k67 := k6.trans' k7
      replace p0 := (k67.cell (lt_of_cell p0) trivial).trans p0
      replace p1 := (k67.cell (lt_of_cell p1) trivial).trans p1
      replace p2 := (k67.cell (lt_of_cell p2) trivial).trans p2
      replace p3 := (k67.cell (lt_of_cell p3) trivial).trans p3
      replace q0 := (k67.cell (lt_of_cell q0) trivial).trans q0
      replace q1 := (k67.cell (lt_of_cell q1) trivial).trans q1
      replace q2 := (k67.cell (lt_of_cell q2) trivial).trans q2
      replace q3 := (k67.cell (lt_of_cell q3) trivial).trans q3
      clear r0 r1 i1 i2
      have hs2 := K5.size
      have hs6 := k6.size
      have end_ : ∀ (W' : World) (jj : Jn) (recs : List (List UInt8)) (L : Value) (ql : List (List UInt8 × Value)),
          W'.heap[w6.heap.size]? = some (.cells #[.slice A6 xs.length ca6, .slice B6 ys.length cb6, .slice none 0 0, .int .i64 (jj.cur : Int), .int .i64 (jj.gen : Int), .int .i64 (jj.nr : Int), .int .i64 (jj.end_ : Int)] 91 (0, 0)) →
          Keeps (· ≠ w6.heap.size) W7 W' → Good jj → jj.dA = xs → jj.dB = ys → jj.ws = [] → ql.map (·.1) = recs → OwnR (fun k => w.heap.size ≤ k ∧ k < W2.heap.size) W2 L ql →
          PostROpen w (some (jj, recs)) (.returned (.tuple #[.pointer (some ⟨w6.heap.size, 0, none⟩), L, .int .i64 0])) W' := fun W' jj recs L ql hh hK hg hjA hjB hjw hql hO => by
        have hz := lt_of_heap hb7
        have hKs := hK.size
        have nb : ∀ {v : Value} {n : Nat} {xs : List Value}, W7.ownsRow 0 5 1 v n xs → ∀ k, v.ownBlock = some k → k ≠ w6.heap.size := fun hx k hk e => own_ne_heap hx hb7 (by decide) (by rw [hk, e])
        have hA7 := hA.keep (k7.old _)
        have hB7 := hB.keep (k7.old _)
        refine ⟨fun k => W2.heap.size ≤ k ∧ k < W'.heap.size, w6.heap.size, .slice A6 xs.length ca6, .slice B6 ys.length cb6, .slice none 0 0, [], L, ql, rfl,
          ⟨hh, ⟨by rw [hjA]; exact own_keeps hA7.row hK (nb hA7.row), fun k hk => ⟨hA7.foot k hk, Nat.lt_of_lt_of_le (own_lt hA7.row hk) hKs⟩, by rw [hjA]; exact hA7.len⟩, ⟨by rw [hjB]; exact own_keeps hB7.row hK (nb hB7.row), fun k hk => ⟨hB7.foot k hk, Nat.lt_of_lt_of_le (own_lt hB7.row hk) hKs⟩, by rw [hjB]; exact hB7.len⟩, Pend.nil _ _, by rw [hjw]; rfl, ⟨hs6, by omega⟩, fun k hk => hk.2, hg⟩,
          fun k hk => by omega, hql, ?_, ?_⟩
        · exact (hO.keep ((k67.old _).trans hK fun k hk _ => by show k ≠ w6.heap.size; omega)).mono fun k _ hk => ⟨hk.1, fun h => by omega⟩
        · exact (K5.trans' k67).trans hK fun k hk _ => by show k ≠ w6.heap.size; omega
      have END := hid end_
      clear end_
      by_cases hw : sa ≠ 3 ∧ sb ≠ 3
      · obtain ⟨h3a, h3b⟩ := hw
        have j1 : ((sa : Int) == 3) = false := by rw [beq_eq_false_iff_ne]; omega
        have j2 : ((sb : Int) == 3) = false := by rw [beq_eq_false_iff_ne]; omega
        have j3 : ((sa : Int) != 3) = true := by rw [bne, j1]; rfl
        have j4 : ((sb : Int) != 3) = true := by rw [bne, j2]; rfl
        by_cases h2a : sa = 2
        · subst h2a
          go_wp2
          go_ret3
          rw [HOO.out]
          simp [hsb, h3b]
          exact ⟨rfl, (K5.trans' k6).trans' k7⟩
        · have j5 : ((sa : Int) == 2) = false := by rw [beq_eq_false_iff_ne]; omega
          by_cases h2b : sb = 2
          · subst h2b
            go_wp2
            go_ret3
            rw [HOO.out]
            simp [hsa, h3a]
            exact ⟨rfl, (K5.trans' k6).trans' k7⟩
          · have j6 : ((sb : Int) == 2) = false := by rw [beq_eq_false_iff_ne]; omega
            have hop : openJ (xs, ys) = some (⟨xs, ys, [⟨0, 0, headB 1 0⟩], 0, 1, 0, 16⟩, []) := by
              rw [HOO.out]
              simp [hsa, hsb, h3a, h3b, h2a, h2b]
            have hgo := good_open hop
            obtain ⟨hd, hhd⟩ : ∃ hd, hd = headB 1 0 := ⟨_, rfl⟩
            rw [← hhd] at hop
            have HOP := hid hop
            clear hop HOO
            have hdl : hd.length = 16 := by rw [hhd]; exact headB_length ..
            have z2 : W7.cell? ⟨w6.heap.size, 2, none⟩ = some (.slice none 0 0) := cell_of_heap hb7
            have z4 : W7.cell? ⟨w6.heap.size, 4, none⟩ = some (.int .i64 0) := cell_of_heap hb7
            have z6 : W7.cell? ⟨w6.heap.size, 6, none⟩ = some (.int .i64 0) := cell_of_heap hb7
            have zf : ∀ i, W7.frozen? ⟨w6.heap.size, i, none⟩ = false := fun i => frozen_of_heap hb7
            go_wp2
            obtain ⟨W8, hW8⟩ : ∃ W, W = (W7.setCell ⟨w6.heap.size, 4, none⟩ (.int .i64 1)).setCell ⟨w6.heap.size, 6, none⟩ (.int .i64 16) := ⟨_, rfl⟩
            rw [← hW8]
            have hb8 : W8.heap[w6.heap.size]? = some (.cells #[.slice A6 xs.length ca6, .slice B6 ys.length cb6, .slice none 0 0, .int .i64 0, .int .i64 1, .int .i64 0, .int .i64 16] 91 (0, 0)) := by
              rw [hW8, heap_setCell (heap_setCell hb7 _)]
              rfl
            have k8 : Keeps (· ≠ w6.heap.size) W7 W8 := by rw [hW8]; exact ((Keeps.refl _ _).setCell (fun _ h => h rfl) _).setCell (fun _ h => h rfl) _
            clear hW8 z2 z4 z6 zf
            have z2 : W8.cell? ⟨w6.heap.size, 2, none⟩ = some (.slice none 0 0) := cell_of_heap hb8
            have hf : Calls Tryd.prog 45 #[.int .i64 1, .int .i64 0] W8.drew (PostOwn W8.drew (headB 1 0)) := head_any W8.drew 1 0 (by decide) (by decide)
            rw [← hhd] at hf hgo
            clear hhd
            refine wp_region_planF (fun w' => w'.cell? ⟨w6.heap.size, 2, none⟩ = some (.slice none 0 0)) 9
              [(0, none), (1, none), (2, none), (3, none), (4, none), (5, some 5), (6, none), (7, some 7), (8, some 8)] (by kernel_rfl) (by kernel_rfl) z2 ?_
            iterate 5 (refine planF_take (v := ?_) (by rfl) (by rfl) (fun w' s0 => ?_) ?_; rotate_left 1; (go_simp <;> (try with_reducible rfl)); (simp only [Act.put, List.setIfInBounds_toArray, List.set_cons_zero, List.set_cons_succ]))
            refine planF_loud (by rfl) (loudly_of (by rfl) (fun K hK => ?_))
            go_wp2_with (go_at_call 45; refine hf.mono ?_)
            rintro e w9 ⟨v, rfl, hv, k9⟩
            replace k9 := k9.ofDrew
            obtain ⟨Av, cv, rfl, _, _⟩ := hv.slice
            rw [hdl]
            have hb9 := k9.heap hb8 trivial
            have y2 : w9.cell? ⟨w6.heap.size, 2, none⟩ = some (.slice none 0 0) := cell_of_heap hb9
            refine hK _ _ y2 ?_
            clear hK K hf z2
            (refine planF_take (v := ?_) (by rfl) (by rfl) (fun w' s0 => ?_) ?_; rotate_left 1; (go_simp <;> (try with_reducible rfl)); (simp only [Act.put, List.setIfInBounds_toArray, List.set_cons_zero, List.set_cons_succ]))
            refine planF_loud (by rfl) (loudly_of (by rfl) (fun K hK => ?_))
            go_wp2
            obtain ⟨w3, hw3⟩ : ∃ W, W = w9.alloc (.cells #[.int .i64 0, .int .i64 0, .slice Av 16 cv] 93) := ⟨_, rfl⟩
            rw [← hw3]
            have K23 : Old w9 w3 := by rw [hw3]; exact (Keeps.refl _ _).alloc _
            have hb3 : w3.heap[w9.heap.size]? = some (.cells #[.int .i64 0, .int .i64 0, .slice Av 16 cv] 93 (0, 0)) := by rw [hw3]; exact heap_alloc_new _ _
            clear hw3
            refine hK _ _ ((K23.cell (lt_of_cell y2) trivial).trans y2) ?_
            clear hK K
            refine planF_loud (by rfl) (loudly_of (by rfl) (fun K hK => ?_))
            refine wp_append_ex w3 _ _ 89 93 (by rfl) Tryd.underlying89 info93 (by rfl) (by omega) (by rfl) (World.ownsRow_nil _ _ _ _) (some ⟨w9.heap.size, 0, none⟩) 1 1 [.int .i64 0, .int .i64 0, .slice Av 16 cv] (by rfl) (by rfl) (fun _ => ⟨_, rfl, World.news_of_block hb3⟩) (three_one rfl rfl rfl) (by omega) (by unfold maxLen; omega) ?_
            intro v2 w4 hown4 hgrow4 hat4
            simp only [Act.put, List.setIfInBounds_toArray, List.set_cons_zero, List.set_cons_succ]
            have K34 : Old w3 w4 := (Keeps.refl _ w3).grown hgrow4 (fun k _ h hn => by simp [Value.ownBlock] at h)
            have hb39 := K23.heap hb9 trivial
            have hh4 := K34.heap hb39 trivial
            have x2 : w4.cell? ⟨w6.heap.size, 2, none⟩ = some (.slice none 0 0) := cell_of_heap hh4
            have xf : ∀ i, w4.frozen? ⟨w6.heap.size, i, none⟩ = false := fun i => frozen_of_heap hh4
            obtain ⟨A4, c4', hv2, _, _⟩ := own_slice hown4
            subst hv2
            refine hK _ _ x2 ?_
            clear hK K
            have hs8 := k8.size
            have hs9 := k9.size
            have hs7 := k7.size
            have hs23 := K23.size
            have hs34 := K34.size
            have hz7 := lt_of_heap hb7
            have nb7 : ∀ {v : Value} {n : Nat} {xs : List Value}, W7.ownsRow 0 5 1 v n xs → ∀ k, v.ownBlock = some k → k ≠ w6.heap.size := fun hx k hk e => own_ne_heap hx hb7 (by decide) (by rw [hk, e])
            have hA7 := hA.keep (k7.old _)
            have hB7 := hB.keep (k7.old _)
            have KO : Old W8 w3 := k9.trans' K23
            have oA : OwnB (fun k => W2.heap.size ≤ k) w3 (.slice A6 xs.length ca6) xs := ⟨own_keeps (own_keeps hA7.row k8 (nb7 hA7.row)) (KO.old _) (fun _ _ => trivial), hA7.foot, hA7.len⟩
            have oB : OwnB (fun k => W2.heap.size ≤ k) w3 (.slice B6 ys.length cb6) ys := ⟨own_keeps (own_keeps hB7.row k8 (nb7 hB7.row)) (KO.old _) (fun _ _ => trivial), hB7.foot, hB7.len⟩
            have hvl := hv.keep (K23.old _)
            rw [hdl] at hvl
            have oV : OwnB (fun k => W2.heap.size ≤ k) w3 (.slice Av 16 cv) hd := hvl.mono fun k _ hk => by have h1 : W8.drew.heap.size ≤ k := hk; simp at h1; omega
            have L := rnet_first hb39 oA oB oV (by omega) K34 hown4 (fun k hk => by
              rcases hat4 with e | e
              · rw [e] at hk; simp [Value.ownBlock] at hk
              · rw [e] at hk; injection hk with hk; omega) hgo
            have KK : Old w (w4.setCell ⟨w6.heap.size, 2, none⟩ (.slice A4 (0 + 1) c4')) :=
              ((((K5.trans' k67).trans k8 fun k hk _ => by show k ≠ w6.heap.size; omega).trans' (KO.trans' K34))).setCell (fun h _ => by
                have : w6.heap.size < w.heap.size := h
                omega) _
            have LL := hid (And.intro L KK)
            clear L KK hown4 hgrow4 hb39 hh4 hb3 hvl oA oB oV hA7 hB7
            refine planF_tail (by rfl) ?_
            go_wp2
            refine NoPanic.normal ?_
            go_wp2
            go_ret3
            rw [HOP.out]
            exact ⟨_, _, _, _, _, _, _, [], rfl, LL.out.1, fun k hk => by have := hk.1; omega, rfl, OwnR.nil _ _, LL.out.2⟩
      · have oA2 : OwnR (fun k => w.heap.size ≤ k ∧ k < W2.heap.size) W2 (.slice Aa qa.length caa) qa := oA.mono fun k hk h => ⟨Nat.le_trans hs0 h, hk⟩
        have oB2 : OwnR (fun k => w.heap.size ≤ k ∧ k < W2.heap.size) W2 (.slice Ab qb.length cab) qb := oB.mono fun k hk h => ⟨Nat.le_trans hs1 h, hk⟩
        have HZ := hid (And.intro oA2 oB2)
        by_cases h3a : sa = 3
        · subst h3a
          by_cases h3b : sb = 3
          · subst h3b
            have ga2 := (a1 rfl).2.2
            have gb2 := (b1 rfl).2.2
            obtain ⟨dd, hdd⟩ : ∃ dd, dd = (ga + 4294967296 - gb) % 4294967296 := ⟨_, rfl⟩
            obtain ⟨zz, j7⟩ : ∃ zz : Int, IntKind.i64.wrap ((ga : Int) - (gb : Int)) = zz := ⟨_, rfl⟩
            have hzz : zz = (ga : Int) - (gb : Int) := by rw [← j7, IntKind.wrap_i64]; omega
            obtain ⟨z2, j8⟩ : ∃ z2 : Int, IntKind.i64.wrap (zz + 4294967296) = z2 := ⟨_, rfl⟩
            have hz2 : z2 = (ga : Int) - (gb : Int) + 4294967296 := by rw [← j8, IntKind.wrap_i64]; omega
            obtain ⟨z4, j9⟩ : ∃ z4 : Int, z2 % 4294967296 = z4 := ⟨_, rfl⟩
            have hz4 : z4 = (dd : Int) := by omega
            have j10 : (0 : Int) ≤ z2 := by omega
            clear hzz hz2
            have HZ4 := hid hz4
            clear hz4
            rw [← hdd] at HOO
            clear hdd ga2 gb2
            by_cases hge : 2147483648 ≤ dd
            · have HGE := hid hge
              have j12 : z4 ≥ 2147483648 := by have := HZ4.out; omega
              clear hge
              go_upto_region 14 with fail
              obtain ⟨W8, hW8⟩ : ∃ W, W = W7.alloc (.cells #[.int .i64 (3 : Int), .int .i64 (ga : Int), .slice Aa qa.length caa, .int .i64 (ea : Int)] 112) := ⟨_, rfl⟩
              rw [← hW8]
              have k8 : Old W7 W8 := by rw [hW8]; exact (Keeps.refl _ _).alloc _
              have hb8 : W8.heap[W7.heap.size]? = some (.cells #[.int .i64 (3 : Int), .int .i64 (ga : Int), .slice Aa qa.length caa, .int .i64 (ea : Int)] 112 (0, 0)) := by rw [hW8]; exact heap_alloc_new _ _
              clear hW8
              replace p0 := (k8.cell (lt_of_cell p0) trivial).trans p0
              replace p1 := (k8.cell (lt_of_cell p1) trivial).trans p1
              replace q0 := (k8.cell (lt_of_cell q0) trivial).trans q0
              replace q1 := (k8.cell (lt_of_cell q1) trivial).trans q1
              replace q2 := (k8.cell (lt_of_cell q2) trivial).trans q2
              replace q3 := (k8.cell (lt_of_cell q3) trivial).trans q3
              have hb78 := k8.heap hb7 trivial
              have hlt7 := lt_of_heap hb7
              obtain ⟨g8, hg8⟩ : ∃ g8, g8 = W7.heap.size := ⟨_, rfl⟩
              obtain ⟨g7, hg7⟩ : ∃ g7, g7 = w6.heap.size := ⟨_, rfl⟩
              rw [← hg8] at hb8 hlt7 ⊢
              rw [← hg7] at hb7 hb78 hlt7 END ⊢
              have hne : g7 ≠ g8 := by omega
              have hg8' : W7.heap.size ≤ g8 := by omega
              clear hg8 hg7
              have f8 : ∀ i, W8.frozen? ⟨g8, i, none⟩ = false := fun i => frozen_of_heap hb8
              have x0 : W8.cell? ⟨g8, 0, none⟩ = some (.int .i64 (3 : Int)) := cell_of_heap hb8
              have x1 : W8.cell? ⟨g8, 1, none⟩ = some (.int .i64 (ga : Int)) := cell_of_heap hb8
              have x2 : W8.cell? ⟨g8, 2, none⟩ = some (.slice Aa qa.length caa) := cell_of_heap hb8
              have x3 : W8.cell? ⟨g8, 3, none⟩ = some (.int .i64 (ea : Int)) := cell_of_heap hb8
              go_upto_region 16 with fail
              obtain ⟨W9, hW9⟩ : ∃ W, W = (((W8.setCell ⟨g8, 0, none⟩ (.int .i64 (3 : Int))).setCell ⟨g8, 1, none⟩ (.int .i64 (gb : Int))).setCell ⟨g8, 2, none⟩ (.slice Ab qb.length cab)).setCell ⟨g8, 3, none⟩ (.int .i64 (eb : Int)) := ⟨_, rfl⟩
              rw [← hW9]
              have hb9 : W9.heap[g8]? = some (.cells #[.int .i64 (3 : Int), .int .i64 (gb : Int), .slice Ab qb.length cab, .int .i64 (eb : Int)] 112 (0, 0)) := by rw [hW9]; exact set_four hb8 _ _ _ _
              have k9 : Keeps (· ≠ g8) W8 W9 := by rw [hW9]; exact keeps_four _ _ _ _
              clear hW9
              have hb79 := k9.heap hb78 hne
              have z3 : W9.cell? ⟨g7, 2, none⟩ = some (.slice none 0 0) := cell_of_heap hb79
              have z3' : W9.cell? ⟨g7, 3, none⟩ = some (.int .i64 0) := cell_of_heap hb79
              have z4 : W9.cell? ⟨g7, 4, none⟩ = some (.int .i64 0) := cell_of_heap hb79
              have z5 : W9.cell? ⟨g7, 5, none⟩ = some (.int .i64 0) := cell_of_heap hb79
              have z6 : W9.cell? ⟨g7, 6, none⟩ = some (.int .i64 0) := cell_of_heap hb79
              have zf : ∀ i, W9.frozen? ⟨g7, i, none⟩ = false := fun i => frozen_of_heap hb79
              have y1 : W9.cell? ⟨g8, 1, none⟩ = some (.int .i64 (gb : Int)) := cell_of_heap hb9
              have y2 : W9.cell? ⟨g8, 2, none⟩ = some (.slice Ab qb.length cab) := cell_of_heap hb9
              have y3 : W9.cell? ⟨g8, 3, none⟩ = some (.int .i64 (eb : Int)) := cell_of_heap hb9
              clear hb52 hb6 hb02 hb9
              have hql : qb.length = rsb.length := by rw [← hqb]; simp
              have hop : openJ (xs, ys) = some (⟨xs, ys, [], 1, gb, rsb.length, eb⟩, rsb) := by
                rw [HOO.out]
                simp [HGE.out]
              have hgo := good_open hop
              have fin : ∀ W' : World, W' = (((W9.setCell ⟨g7, 3, none⟩ (.int .i64 1)).setCell ⟨g7, 4, none⟩ (.int .i64 (gb : Int))).setCell ⟨g7, 5, none⟩ (.int .i64 (qb.length : Int))).setCell ⟨g7, 6, none⟩ (.int .i64 (eb : Int)) → ∀ nq, PostROpen w (openJ (xs, ys)) (.returned (.tuple #[.pointer (some ⟨g7, 0, none⟩), .slice Ab qb.length cab, .int .i64 0])) (W'.drewN nq) := fun W' hW' nq => by
                rw [hop]
                refine END.out _ _ _ _ _ ?_ ?_ hgo rfl rfl rfl hqb HZ.out.2
                · have : W'.heap[g7]? = some (.cells #[.slice A6 xs.length ca6, .slice B6 ys.length cb6, .slice none 0 0, .int .i64 1, .int .i64 (gb : Int), .int .i64 (qb.length : Int), .int .i64 (eb : Int)] 91 (0, 0)) := by
                    rw [hW', heap_setCell (heap_setCell (heap_setCell (heap_setCell hb79 _) _) _)]
                    rfl
                  rw [hql] at this
                  exact this
                · rw [hW']
                  exact (((((((k8.old _).trans k9 fun k hk _ => by show k ≠ g8; omega).setCell (fun _ h => h rfl) _).setCell (fun _ h => h rfl) _).setCell (fun _ h => h rfl) _).setCell (fun _ h => h rfl) _)).drewN nq
              have FIN := hid fin
              clear fin hop hgo hql
              go_wp2
              go_quiet (fail)
              go_wp2
              go_ret3
              exact FIN.out _ rfl nq
            · have HGE := hid hge
              have j12 : ¬ z4 ≥ 2147483648 := by have := HZ4.out; omega
              clear hge
              go_upto_region 14 with fail
              obtain ⟨W8, hW8⟩ : ∃ W, W = W7.alloc (.cells #[.int .i64 (3 : Int), .int .i64 (ga : Int), .slice Aa qa.length caa, .int .i64 (ea : Int)] 112) := ⟨_, rfl⟩
              rw [← hW8]
              have k8 : Old W7 W8 := by rw [hW8]; exact (Keeps.refl _ _).alloc _
              have hb8 : W8.heap[W7.heap.size]? = some (.cells #[.int .i64 (3 : Int), .int .i64 (ga : Int), .slice Aa qa.length caa, .int .i64 (ea : Int)] 112 (0, 0)) := by rw [hW8]; exact heap_alloc_new _ _
              clear hW8
              replace p0 := (k8.cell (lt_of_cell p0) trivial).trans p0
              replace p1 := (k8.cell (lt_of_cell p1) trivial).trans p1
              replace q0 := (k8.cell (lt_of_cell q0) trivial).trans q0
              replace q1 := (k8.cell (lt_of_cell q1) trivial).trans q1
              replace q2 := (k8.cell (lt_of_cell q2) trivial).trans q2
              replace q3 := (k8.cell (lt_of_cell q3) trivial).trans q3
              have hb78 := k8.heap hb7 trivial
              have hlt7 := lt_of_heap hb7
              obtain ⟨g8, hg8⟩ : ∃ g8, g8 = W7.heap.size := ⟨_, rfl⟩
              obtain ⟨g7, hg7⟩ : ∃ g7, g7 = w6.heap.size := ⟨_, rfl⟩
              rw [← hg8] at hb8 hlt7 ⊢
              rw [← hg7] at hb7 hb78 hlt7 END ⊢
              have hne : g7 ≠ g8 := by omega
              clear hg8 hg7
              have z3 : W8.cell? ⟨g7, 3, none⟩ = some (.int .i64 0) := cell_of_heap hb78
              have z4 : W8.cell? ⟨g7, 4, none⟩ = some (.int .i64 0) := cell_of_heap hb78
              have z5 : W8.cell? ⟨g7, 5, none⟩ = some (.int .i64 0) := cell_of_heap hb78
              have z6 : W8.cell? ⟨g7, 6, none⟩ = some (.int .i64 0) := cell_of_heap hb78
              have zf : ∀ i, W8.frozen? ⟨g7, i, none⟩ = false := fun i => frozen_of_heap hb78
              have y1 : W8.cell? ⟨g8, 1, none⟩ = some (.int .i64 (ga : Int)) := cell_of_heap hb8
              have y2 : W8.cell? ⟨g8, 2, none⟩ = some (.slice Aa qa.length caa) := cell_of_heap hb8
              have y3 : W8.cell? ⟨g8, 3, none⟩ = some (.int .i64 (ea : Int)) := cell_of_heap hb8
              clear hb52 hb6 hb02
              have hql : qa.length = rsa.length := by rw [← hqa]; simp
              have hop : openJ (xs, ys) = some (⟨xs, ys, [], 0, ga, rsa.length, ea⟩, rsa) := by
                rw [HOO.out]
                simp [HGE.out]
              have hgo := good_open hop
              have fin : ∀ W' : World, W' = ((W8.setCell ⟨g7, 4, none⟩ (.int .i64 (ga : Int))).setCell ⟨g7, 5, none⟩ (.int .i64 (qa.length : Int))).setCell ⟨g7, 6, none⟩ (.int .i64 (ea : Int)) → ∀ nq, PostROpen w (openJ (xs, ys)) (.returned (.tuple #[.pointer (some ⟨g7, 0, none⟩), .slice Aa qa.length caa, .int .i64 0])) (W'.drewN nq) := fun W' hW' nq => by
                rw [hop]
                refine END.out _ _ _ _ _ ?_ ?_ hgo rfl rfl rfl hqa HZ.out.1
                · have : W'.heap[g7]? = some (.cells #[.slice A6 xs.length ca6, .slice B6 ys.length cb6, .slice none 0 0, .int .i64 0, .int .i64 (ga : Int), .int .i64 (qa.length : Int), .int .i64 (ea : Int)] 91 (0, 0)) := by
                    rw [hW', heap_setCell (heap_setCell (heap_setCell hb78 _) _)]
                    rfl
                  rw [hql] at this
                  exact this
                · rw [hW']
                  exact (((((k8.old _).setCell (fun _ h => h rfl) _).setCell (fun _ h => h rfl) _).setCell (fun _ h => h rfl) _)).drewN nq
              have FIN := hid fin
              clear fin hop hgo hql
              go_wp2
              go_quiet (fail)
              go_wp2
              go_ret3
              exact FIN.out _ rfl nq
          · have j2 : ((sb : Int) == 3) = false := by rw [beq_eq_false_iff_ne]; omega
            have j4 : ((sb : Int) != 3) = true := by rw [bne, j2]; rfl
            go_upto_region 14 with fail
            obtain ⟨W8, hW8⟩ : ∃ W, W = W7.alloc (.cells #[.int .i64 (3 : Int), .int .i64 (ga : Int), .slice Aa qa.length caa, .int .i64 (ea : Int)] 112) := ⟨_, rfl⟩
            rw [← hW8]
            have k8 : Old W7 W8 := by rw [hW8]; exact (Keeps.refl _ _).alloc _
            have hb8 : W8.heap[W7.heap.size]? = some (.cells #[.int .i64 (3 : Int), .int .i64 (ga : Int), .slice Aa qa.length caa, .int .i64 (ea : Int)] 112 (0, 0)) := by rw [hW8]; exact heap_alloc_new _ _
            clear hW8
            replace p0 := (k8.cell (lt_of_cell p0) trivial).trans p0
            replace p1 := (k8.cell (lt_of_cell p1) trivial).trans p1
            replace q0 := (k8.cell (lt_of_cell q0) trivial).trans q0
            replace q1 := (k8.cell (lt_of_cell q1) trivial).trans q1
            replace q2 := (k8.cell (lt_of_cell q2) trivial).trans q2
            replace q3 := (k8.cell (lt_of_cell q3) trivial).trans q3
            have hb78 := k8.heap hb7 trivial
            have hlt7 := lt_of_heap hb7
            obtain ⟨g8, hg8⟩ : ∃ g8, g8 = W7.heap.size := ⟨_, rfl⟩
            obtain ⟨g7, hg7⟩ : ∃ g7, g7 = w6.heap.size := ⟨_, rfl⟩
            rw [← hg8] at hb8 hlt7 ⊢
            rw [← hg7] at hb7 hb78 hlt7 END ⊢
            have hne : g7 ≠ g8 := by omega
            clear hg8 hg7
            have z3 : W8.cell? ⟨g7, 3, none⟩ = some (.int .i64 0) := cell_of_heap hb78
            have z4 : W8.cell? ⟨g7, 4, none⟩ = some (.int .i64 0) := cell_of_heap hb78
            have z5 : W8.cell? ⟨g7, 5, none⟩ = some (.int .i64 0) := cell_of_heap hb78
            have z6 : W8.cell? ⟨g7, 6, none⟩ = some (.int .i64 0) := cell_of_heap hb78
            have zf : ∀ i, W8.frozen? ⟨g7, i, none⟩ = false := fun i => frozen_of_heap hb78
            have y1 : W8.cell? ⟨g8, 1, none⟩ = some (.int .i64 (ga : Int)) := cell_of_heap hb8
            have y2 : W8.cell? ⟨g8, 2, none⟩ = some (.slice Aa qa.length caa) := cell_of_heap hb8
            have y3 : W8.cell? ⟨g8, 3, none⟩ = some (.int .i64 (ea : Int)) := cell_of_heap hb8
            clear hb52 hb6 hb02
            have hql : qa.length = rsa.length := by rw [← hqa]; simp
            have hop : openJ (xs, ys) = some (⟨xs, ys, [], 0, ga, rsa.length, ea⟩, rsa) := by
              rw [HOO.out]
              simp [hsb, h3b]
            have hgo := good_open hop
            have fin : ∀ W' : World, W' = ((W8.setCell ⟨g7, 4, none⟩ (.int .i64 (ga : Int))).setCell ⟨g7, 5, none⟩ (.int .i64 (qa.length : Int))).setCell ⟨g7, 6, none⟩ (.int .i64 (ea : Int)) → ∀ nq, PostROpen w (openJ (xs, ys)) (.returned (.tuple #[.pointer (some ⟨g7, 0, none⟩), .slice Aa qa.length caa, .int .i64 0])) (W'.drewN nq) := fun W' hW' nq => by
              rw [hop]
              refine END.out _ _ _ _ _ ?_ ?_ hgo rfl rfl rfl hqa HZ.out.1
              · have : W'.heap[g7]? = some (.cells #[.slice A6 xs.length ca6, .slice B6 ys.length cb6, .slice none 0 0, .int .i64 0, .int .i64 (ga : Int), .int .i64 (qa.length : Int), .int .i64 (ea : Int)] 91 (0, 0)) := by
                  rw [hW', heap_setCell (heap_setCell (heap_setCell hb78 _) _)]
                  rfl
                rw [hql] at this
                exact this
              · rw [hW']
                exact (((((k8.old _).setCell (fun _ h => h rfl) _).setCell (fun _ h => h rfl) _).setCell (fun _ h => h rfl) _)).drewN nq
            have FIN := hid fin
            clear fin hop hgo hql
            go_wp2
            go_quiet (fail)
            go_wp2
            go_ret3
            exact FIN.out _ rfl nq
        · have h3b : sb = 3 := Decidable.not_not.1 fun e => hw ⟨h3a, e⟩
          subst h3b
          have j2 : ((sa : Int) == 3) = false := by rw [beq_eq_false_iff_ne]; omega
          have j4 : ((sa : Int) != 3) = true := by rw [bne, j2]; rfl
          go_upto_region 14 with fail
          obtain ⟨W8, hW8⟩ : ∃ W, W = W7.alloc (.cells #[.int .i64 (sa : Int), .int .i64 (ga : Int), .slice Aa qa.length caa, .int .i64 (ea : Int)] 112) := ⟨_, rfl⟩
          rw [← hW8]
          have k8 : Old W7 W8 := by rw [hW8]; exact (Keeps.refl _ _).alloc _
          have hb8 : W8.heap[W7.heap.size]? = some (.cells #[.int .i64 (sa : Int), .int .i64 (ga : Int), .slice Aa qa.length caa, .int .i64 (ea : Int)] 112 (0, 0)) := by rw [hW8]; exact heap_alloc_new _ _
          clear hW8
          replace p0 := (k8.cell (lt_of_cell p0) trivial).trans p0
          replace p1 := (k8.cell (lt_of_cell p1) trivial).trans p1
          replace q0 := (k8.cell (lt_of_cell q0) trivial).trans q0
          replace q1 := (k8.cell (lt_of_cell q1) trivial).trans q1
          replace q2 := (k8.cell (lt_of_cell q2) trivial).trans q2
          replace q3 := (k8.cell (lt_of_cell q3) trivial).trans q3
          have hb78 := k8.heap hb7 trivial
          have hlt7 := lt_of_heap hb7
          obtain ⟨g8, hg8⟩ : ∃ g8, g8 = W7.heap.size := ⟨_, rfl⟩
          obtain ⟨g7, hg7⟩ : ∃ g7, g7 = w6.heap.size := ⟨_, rfl⟩
          rw [← hg8] at hb8 hlt7 ⊢
          rw [← hg7] at hb7 hb78 hlt7 END ⊢
          have hne : g7 ≠ g8 := by omega
          have hg8' : W7.heap.size ≤ g8 := by omega
          clear hg8 hg7
          have f8 : ∀ i, W8.frozen? ⟨g8, i, none⟩ = false := fun i => frozen_of_heap hb8
          have x0 : W8.cell? ⟨g8, 0, none⟩ = some (.int .i64 (sa : Int)) := cell_of_heap hb8
          have x1 : W8.cell? ⟨g8, 1, none⟩ = some (.int .i64 (ga : Int)) := cell_of_heap hb8
          have x2 : W8.cell? ⟨g8, 2, none⟩ = some (.slice Aa qa.length caa) := cell_of_heap hb8
          have x3 : W8.cell? ⟨g8, 3, none⟩ = some (.int .i64 (ea : Int)) := cell_of_heap hb8
          go_upto_region 16 with fail
          obtain ⟨W9, hW9⟩ : ∃ W, W = (((W8.setCell ⟨g8, 0, none⟩ (.int .i64 (3 : Int))).setCell ⟨g8, 1, none⟩ (.int .i64 (gb : Int))).setCell ⟨g8, 2, none⟩ (.slice Ab qb.length cab)).setCell ⟨g8, 3, none⟩ (.int .i64 (eb : Int)) := ⟨_, rfl⟩
          rw [← hW9]
          have hb9 : W9.heap[g8]? = some (.cells #[.int .i64 (3 : Int), .int .i64 (gb : Int), .slice Ab qb.length cab, .int .i64 (eb : Int)] 112 (0, 0)) := by rw [hW9]; exact set_four hb8 _ _ _ _
          have k9 : Keeps (· ≠ g8) W8 W9 := by rw [hW9]; exact keeps_four _ _ _ _
          clear hW9
          have hb79 := k9.heap hb78 hne
          have z3 : W9.cell? ⟨g7, 2, none⟩ = some (.slice none 0 0) := cell_of_heap hb79
          have z3' : W9.cell? ⟨g7, 3, none⟩ = some (.int .i64 0) := cell_of_heap hb79
          have z4 : W9.cell? ⟨g7, 4, none⟩ = some (.int .i64 0) := cell_of_heap hb79
          have z5 : W9.cell? ⟨g7, 5, none⟩ = some (.int .i64 0) := cell_of_heap hb79
          have z6 : W9.cell? ⟨g7, 6, none⟩ = some (.int .i64 0) := cell_of_heap hb79
          have zf : ∀ i, W9.frozen? ⟨g7, i, none⟩ = false := fun i => frozen_of_heap hb79
          have y1 : W9.cell? ⟨g8, 1, none⟩ = some (.int .i64 (gb : Int)) := cell_of_heap hb9
          have y2 : W9.cell? ⟨g8, 2, none⟩ = some (.slice Ab qb.length cab) := cell_of_heap hb9
          have y3 : W9.cell? ⟨g8, 3, none⟩ = some (.int .i64 (eb : Int)) := cell_of_heap hb9
          clear hb52 hb6 hb02 hb9
          have hql : qb.length = rsb.length := by rw [← hqb]; simp
          have hop : openJ (xs, ys) = some (⟨xs, ys, [], 1, gb, rsb.length, eb⟩, rsb) := by
            rw [HOO.out]
            simp [hsa, h3a]
          have hgo := good_open hop
          have fin : ∀ W' : World, W' = (((W9.setCell ⟨g7, 3, none⟩ (.int .i64 1)).setCell ⟨g7, 4, none⟩ (.int .i64 (gb : Int))).setCell ⟨g7, 5, none⟩ (.int .i64 (qb.length : Int))).setCell ⟨g7, 6, none⟩ (.int .i64 (eb : Int)) → ∀ nq, PostROpen w (openJ (xs, ys)) (.returned (.tuple #[.pointer (some ⟨g7, 0, none⟩), .slice Ab qb.length cab, .int .i64 0])) (W'.drewN nq) := fun W' hW' nq => by
            rw [hop]
            refine END.out _ _ _ _ _ ?_ ?_ hgo rfl rfl rfl hqb HZ.out.2
            · have : W'.heap[g7]? = some (.cells #[.slice A6 xs.length ca6, .slice B6 ys.length cb6, .slice none 0 0, .int .i64 1, .int .i64 (gb : Int), .int .i64 (qb.length : Int), .int .i64 (eb : Int)] 91 (0, 0)) := by
                rw [hW', heap_setCell (heap_setCell (heap_setCell (heap_setCell hb79 _) _) _)]
                rfl
              rw [hql] at this
              exact this
            · rw [hW']
              exact (((((((k8.old _).trans k9 fun k hk _ => by show k ≠ g8; omega).setCell (fun _ h => h rfl) _).setCell (fun _ h => h rfl) _).setCell (fun _ h => h rfl) _).setCell (fun _ h => h rfl) _)).drewN nq
          have FIN := hid fin
          clear fin hop hgo hql
          go_wp2
          go_quiet (fail)
          go_wp2
          go_ret3
          exact FIN.out _ rfl nq
end Go.Proofs.YtdpaaoeipconcaaDoor
