/- journal.scanned: how an area reads. Conditions: the bytes can be read; the table lies. -/
import Derived.Test.YtdpaaoeipconcaaDoorJFrames
import Derived.Test.YtdpaaoeipconcaaDoorJQuiet
import Derived.Laws.IdiomStrings
namespace Go.Proofs.YtdpaaoeipconcaaDoor
open Go.RowKit

theorem Bts.part {S : Nat → Prop} {w : World} {A X : Option Addr} {bs : List UInt8} (h : Bts S w A bs) {i n : Nat} (hn : i + n ≤ bs.length) (hX : 0 < n → ∀ b o, A = some ⟨b, o, none⟩ → X = some ⟨b, o + i, none⟩) : Bts S w X ((bs.drop i).take n) := by
  have hl := h.1
  refine ⟨by simp; omega, fun hne => ?_⟩
  have hn0 : 0 < n := by
    apply Nat.pos_of_ne_zero
    rintro rfl
    simp at hne
  obtain ⟨b, o, e, hs, hc⟩ := h.2 (by rintro rfl; simp at hn; omega)
  refine ⟨b, o + i, hX hn0 b o e, hs, fun j hj => ?_⟩
  have hj' : j < n := by simp at hj; omega
  have := hc (i + j) (by omega)
  rw [show o + i + j = o + (i + j) by omega, this]
  simp
theorem Bts.take {S : Nat → Prop} {w : World} {A : Option Addr} {bs : List UInt8} (h : Bts S w A bs) {n : Nat} (hn : n ≤ bs.length) : Bts S w A (bs.take n) := by
  have := h.part (X := A) (i := 0) (n := n) (by omega) fun _ b o e => by rw [e]; rfl
  simpa using this

theorem toList_bytes (l : List UInt8) : (ByteArray.mk l.toArray).toList = l := ByteArray.toList_mk l
theorem long_q {w : World} {S : Nat → Prop} {A : Option Addr} {n c : Nat} {bs : List UInt8} {m : Nat} (a : Nat) (ha : Bts S w A bs) (hn : n = bs.length) (h4 : a + 4 ≤ n) :
    Calls Tryd.prog 78 #[.slice A n c, .int .i64 (a : Int)] (w.drewN m) fun e w' => e = .returned (.int .u32 (num bs a : Nat)) ∧ ∃ k, w' = w.drewN k :=
  (long_any (w.drewN m) S A n c bs a (ha.keep ((Keeps.refl _ _).drewN _)) hn h4).mono fun e w' ⟨h, k, hk⟩ => ⟨h, m + k, by rw [← hk, World.drewN_drewN]⟩
theorem sum_q {w : World} {S : Nat → Prop} {A : Option Addr} {n c : Nat} {bs : List UInt8} {m : Nat} (hT : Tab w) (ha : Bts S w A bs) (hn : n = bs.length) :
    Calls Tryd.prog 75 #[.slice A n c] (w.drewN m) fun e w' => e = .returned (.int .u32 (crc bs : Nat)) ∧ ∃ k, w' = w.drewN k := by
  subst hn
  exact (sum_any (w.drewN m) S A c bs (hT.keep (S := fun _ => True) ((Keeps.refl _ _).drewN _) trivial) (ha.keep ((Keeps.refl _ _).drewN _))).mono fun e w' ⟨h, hk⟩ => ⟨h, m, hk.symm⟩

def PostScan (w : World) (r : Ar) (e : Ending) (w' : World) : Prop :=
  ∃ L q, e = .returned (.agg #[.int .i64 (r.state : Int), .int .u32 (r.gen : Int), L, .int .i64 (r.end_ : Int)]) ∧ q.map (·.1) = r.recs ∧ OwnR (fun k => w.heap.size ≤ k) w' L q ∧ Old w w'

theorem set_four {W : World} {g t : Nat} {a b c d : Value} (h : W.heap[g]? = some (.cells #[a, b, c, d] t (0, 0))) (x0 x1 x2 x3 : Value) :
    ((((W.setCell ⟨g, 0, none⟩ x0).setCell ⟨g, 1, none⟩ x1).setCell ⟨g, 2, none⟩ x2).setCell ⟨g, 3, none⟩ x3).heap[g]? = some (.cells #[x0, x1, x2, x3] t (0, 0)) := by
  rw [heap_setCell (heap_setCell (heap_setCell (heap_setCell h _) _) _)]
  rfl
theorem keeps_four {W : World} {g : Nat} (x0 x1 x2 x3 : Value) : Keeps (· ≠ g) W ((((W.setCell ⟨g, 0, none⟩ x0).setCell ⟨g, 1, none⟩ x1).setCell ⟨g, 2, none⟩ x2).setCell ⟨g, 3, none⟩ x3) :=
  ((((Keeps.refl _ _).setCell (fun _ h => h rfl) _).setCell (fun _ h => h rfl) _).setCell (fun _ h => h rfl) _).setCell (fun _ h => h rfl) _

/-- The call's end: what lies in the result's cells. -/
theorem scan_end {w W : World} {a : Act} {r : Ar} {L : Value} {q : List (List UInt8 × Value)} (ht : a.tmps[2]? = some (.pointer (some ⟨w.heap.size, 0, none⟩))) (hd : a.defers = [])
    (hb : W.heap[w.heap.size]? = some (.cells #[.int .i64 (r.state : Int), .int .u32 (r.gen : Int), L, .int .i64 (r.end_ : Int)] 105 (0, 0))) (hq : q.map (·.1) = r.recs) (ho : OwnR (fun k => w.heap.size ≤ k) W L q) (hk : Old w W) :
    bodyPost Tryd.prog Tryd.f61 (PostScan w r) .ret a W := by
  have d0 : W.cell? ⟨w.heap.size, 0, none⟩ = some (.int .i64 (r.state : Int)) := cell_of_heap hb
  have d1 : W.cell? ⟨w.heap.size, 1, none⟩ = some (.int .u32 (r.gen : Int)) := cell_of_heap hb
  have d2 : W.cell? ⟨w.heap.size, 2, none⟩ = some L := cell_of_heap hb
  have d3 : W.cell? ⟨w.heap.size, 3, none⟩ = some (.int .i64 (r.end_ : Int)) := cell_of_heap hb
  refine bodyPost_ret (v := .agg #[.int .i64 (r.state : Int), .int .u32 (r.gen : Int), L, .int .i64 (r.end_ : Int)]) ?_ hd ⟨L, q, rfl, hq, ho, hk⟩
  simp [results, Tryd.results61, go_sem, ht, d0, d1, d2, d3]

theorem info22 : (Tryd.prog.info? 22).map (fun i => (i.zero, i.size, i.bytes)) = some (some (.slice none 0 0), 1, 24) := by kernel_rfl
theorem one_one {v : Value} (h : v.oneCell' = true) : ∀ u ∈ [v], u.oneCell' = true := by
  intro u hu
  obtain rfl : u = v := by simpa using hu
  exact h

/-- how far an area has been read -/
def endOf (b3 : Nat) (w : World) : Nat := match w.cell? ⟨b3, 3, none⟩ with | some v => (intOf v).toNat | none => 0

theorem endOf_eq {b3 e : Nat} {w : World} (h : w.cell? ⟨b3, 3, none⟩ = some (.int .i64 (e : Int))) : endOf b3 w = e := by
  unfold endOf
  rw [h]
  simp [intOf]

/-- ahead of a round of scanned: s lies at b3 -/
def InScan (w : World) (bs : List UInt8) (gen base b3 : Nat) (m : Value) (wr : World) : Prop :=
  ∃ (recs : List (List UInt8)) (e : Nat) (met : Bool) (L : Value) (q : List (List UInt8 × Value)), m = .bool met ∧ readA bs = scanL bs gen base recs e met ∧ e ≤ bs.length ∧ 16 + 12 * recs.length ≤ e ∧
    wr.heap[b3]? = some (.cells #[.int .i64 3, .int .u32 (gen : Int), L, .int .i64 (e : Int)] 105 (0, 0)) ∧
    wr.heap[w.heap.size]? = some (.cells #[.int .i64 0, .int .u32 0, .slice none 0 0, .int .i64 0] 105 (0, 0)) ∧ q.map (·.1) = recs ∧ OwnR (fun k => b3 < k) wr L q ∧ Old w wr

set_option maxRecDepth 10000 in
set_option maxHeartbeats 4000000 in
theorem scan_any (w : World) (S : Nat → Prop) (A : Option Addr) (n c : Nat) (bs : List UInt8) (hT : Tab w) (ha : Bts S w A bs) (hn : n = bs.length) (hc : n ≤ c) :
    Calls Tryd.prog 61 #[.slice A n c] w (PostScan w (readA bs)) := by
  subst hn
  have hal := ha.1
  obtain ⟨W0, hW0⟩ : ∃ W, W = w.alloc (.cells #[.int .i64 0, .int .u32 0, .slice none 0 0, .int .i64 0] 105) := ⟨_, rfl⟩
  have k0 : Old w W0 := by rw [hW0]; exact (Keeps.refl _ _).alloc _
  have hb0 : W0.heap[w.heap.size]? = some (.cells #[.int .i64 0, .int .u32 0, .slice none 0 0, .int .i64 0] 105 (0, 0)) := by rw [hW0]; exact heap_alloc_new _ _
  have f0 : ∀ j, W0.frozen? ⟨w.heap.size, j, none⟩ = false := fun j => frozen_of_heap hb0
  have g0 : W0.cell? ⟨w.heap.size, 0, none⟩ = some (.int .i64 0) := cell_of_heap hb0
  have g1 : W0.cell? ⟨w.heap.size, 1, none⟩ = some (.int .u32 0) := cell_of_heap hb0
  have g2 : W0.cell? ⟨w.heap.size, 2, none⟩ = some (.slice none 0 0) := cell_of_heap hb0
  have g3 : W0.cell? ⟨w.heap.size, 3, none⟩ = some (.int .i64 0) := cell_of_heap hb0
  by_cases h16 : bs.length < 16
  · have i1 : (bs.length : Int) < 16 := by omega
    have e : readA bs = .short := by rw [readA, if_pos h16]
    rw [e]
    go_enter Tryd.func61, Tryd.ntmps61
    go_upto_region 1 with fail
    rw [← hW0]
    clear hW0
    go_wp2
    exact scan_end (q := []) rfl rfl (set_four hb0 _ _ _ _) rfl (OwnR.nil _ _) (k0.trans (keeps_four _ _ _ _) fun k hk _ => by omega)
  · obtain ⟨b0, o0, rfl⟩ := ha.addr (by omega)
    have i1 : ¬ (bs.length : Int) < 16 := by omega
    have r4 := ha.take (n := 4) (by omega)
    have r12 := ha.take (n := 12) (by omega)
    obtain ⟨s4, hs4⟩ : ∃ s4 : ByteArray, s4 = ⟨(bs.take 4).toArray⟩ := ⟨_, rfl⟩
    have hcv : ∀ m, (convert 22 9 (.slice (some ⟨b0, o0, none⟩) 4 c)).run Tryd.prog (W0.drewN m) = .ok (.string s4) (W0.drewN m) := fun m => by
      have h4 : (bs.take 4).length = 4 := by simp; omega
      have hb := (r4.keep (k0.old _)).keep ((Keeps.refl _ W0).drewN m)
      have := run_convert_bytes_back (P := Tryd.prog) (W0.drewN m) 22 9 5 ⟨b0, o0, none⟩ c (bs.take 4) Tryd.underlying22 Tryd.underlying5 Tryd.underlying9 (fun j hj => by
        have := hb.get hj
        rw [Addr.add_lit, this]
        rw [List.getD_eq_getElem?_getD, List.getElem?_eq_getElem hj]
        rfl)
      rw [h4, ← hs4] at this
      exact this
    have i4 : (4 : Nat) ≤ c := by omega
    have i12 : (12 : Nat) ≤ c := by omega
    have i4' : (4 : Int) ≤ (c : Int) := by omega
    have i12' : (12 : Int) ≤ (c : Int) := by omega
    have hq12 : ∀ m, Calls Tryd.prog 78 #[.slice (some ⟨b0, o0, none⟩) bs.length c, .int .i64 12] (W0.drewN m) fun e w' => e = .returned (.int .u32 (num bs 12 : Nat)) ∧ ∃ k, w' = W0.drewN k := fun m =>
      long_q 12 (ha.keep (k0.old _)) rfl (by omega)
    have hq8 : ∀ m, Calls Tryd.prog 78 #[.slice (some ⟨b0, o0, none⟩) bs.length c, .int .i64 8] (W0.drewN m) fun e w' => e = .returned (.int .u32 (num bs 8 : Nat)) ∧ ∃ k, w' = W0.drewN k := fun m =>
      long_q 8 (ha.keep (k0.old _)) rfl (by omega)
    have hs12 : ∀ m, Calls Tryd.prog 75 #[.slice (some ⟨b0, o0, none⟩) 12 c] (W0.drewN m) fun e w' => e = .returned (.int .u32 (crc (bs.take 12) : Nat)) ∧ ∃ k, w' = W0.drewN k := fun m =>
      sum_q (hT.keep (k0.old (fun _ => True)) trivial) (r12.keep (k0.old _)) (by simp; omega)
    have spo : ∀ W, W.heap[w.heap.size]? = some (.cells #[.int .i64 1, .int .u32 0, .slice none 0 0, .int .i64 0] 105 (0, 0)) → Old w W → ∀ a : Act, a.tmps[2]? = some (.pointer (some ⟨w.heap.size, 0, none⟩)) → a.defers = [] → readA bs = .spoilt → bodyPost Tryd.prog Tryd.f61 (PostScan w (readA bs)) .ret a W := fun W h hk a h1 h2 he => by
      rw [he]
      exact scan_end (q := []) h1 h2 h rfl (OwnR.nil _ _) hk
    have SPO := hid spo
    clear spo
    have kq : ∀ nq, Old w (W0.drewN nq) := fun nq => k0.trans ((Keeps.refl _ _).drewN nq) fun _ _ _ => trivial
    have hbq : ∀ nq, (W0.drewN nq).heap[w.heap.size]? = some (.cells #[.int .i64 0, .int .u32 0, .slice none 0 0, .int .i64 0] 105 (0, 0)) := fun nq => hb0
    have KQ := hid (And.intro kq hbq)
    clear kq hbq
    by_cases hspo : 1048576 < bs.length ∨ bs.take 4 ≠ [119, 101, 102, 116] ∨ num bs 12 ≠ crc (bs.take 12) ∨ 1048560 < num bs 8
    · have hread : readA bs = .spoilt := by rw [readA, if_neg h16, if_pos hspo]
      have HR := hid hread
      clear hread r4 r12 ha hT
      generalize num bs 12 = p at *
      generalize crc (bs.take 12) = q at *
      generalize num bs 8 = r at *
      by_cases hbig : 1048576 < bs.length
      · have i2 : (bs.length : Int) > 1048576 := by omega
        clear hspo hs4
        go_enter Tryd.func61, Tryd.ntmps61
        go_upto_region 1 with fail
        rw [← hW0]
        clear hW0
        go_wp2
        go_quiet (fail)
        go_wp2
        exact SPO.out _ (set_four (KQ.out.2 nq) _ _ _ _) ((KQ.out.1 nq).trans (keeps_four _ _ _ _) fun k hk _ => by omega) _ rfl rfl HR.out
      · have i2 : ¬ (bs.length : Int) > 1048576 := by omega
        by_cases hm : bs.take 4 = [119, 101, 102, 116]
        · have hS : s4.toList = [119, 101, 102, 116] := by rw [hs4, toList_bytes, hm]
          have hS2 : (s4.toList == [119, 101, 102, 116]) = true := by rw [hS]; rfl
          clear hS
          by_cases hpq : p = q
          · have hr : (r : Int) > 1048560 := by
              rcases hspo with h | h | h | h
              · exact absurd h hbig
              · exact absurd hm h
              · exact absurd hpq h
              · omega
            subst hpq
            clear hspo hs4 hm
            go_enter Tryd.func61, Tryd.ntmps61
            go_upto_region 1 with fail
            rw [← hW0]
            clear hW0
            go_wp2
            go_quiet (first | (go_at_call 75; exact hs12 _) | (go_at_call 78; first | with_reducible exact hq12 _ | with_reducible exact hq8 _))
            go_wp2
            exact SPO.out _ (set_four (KQ.out.2 nq) _ _ _ _) ((KQ.out.1 nq).trans (keeps_four _ _ _ _) fun k hk _ => by omega) _ rfl rfl HR.out
          · have hp1 : ((p : Int) == (q : Int)) = false := by rw [beq_eq_false_iff_ne]; omega
            have hp2 : ((p : Int) != (q : Int)) = true := by rw [bne, hp1]; rfl
            clear hspo hs4 hm
            go_enter Tryd.func61, Tryd.ntmps61
            go_upto_region 1 with fail
            rw [← hW0]
            clear hW0
            go_wp2
            go_quiet (first | (go_at_call 75; exact hs12 _) | (go_at_call 78; first | with_reducible exact hq12 _ | with_reducible exact hq8 _))
            go_wp2
            exact SPO.out _ (set_four (KQ.out.2 nq) _ _ _ _) ((KQ.out.1 nq).trans (keeps_four _ _ _ _) fun k hk _ => by omega) _ rfl rfl HR.out
        · have hS2 : (s4.toList == [119, 101, 102, 116]) = false := by rw [hs4, toList_bytes, beq_eq_false_iff_ne]; exact hm
          clear hspo hs4 hm
          go_enter Tryd.func61, Tryd.ntmps61
          go_upto_region 1 with fail
          rw [← hW0]
          clear hW0
          go_wp2
          go_quiet (first | (go_at_call 75; exact hs12 _) | (go_at_call 78; first | with_reducible exact hq12 _ | with_reducible exact hq8 _))
          go_wp2
          exact SPO.out _ (set_four (KQ.out.2 nq) _ _ _ _) ((KQ.out.1 nq).trans (keeps_four _ _ _ _) fun k hk _ => by omega) _ rfl rfl HR.out
    · simp only [not_or, Decidable.not_not] at hspo
      obtain ⟨s1, s2, s3, s4'⟩ := hspo
      have hread : readA bs = if bs.length < 16 + num bs 8 then .torn else scanL bs (num bs 4) (16 + num bs 8) [] 16 (decide (16 = 16 + num bs 8)) := by
        rw [readA, if_neg h16, if_neg (by simp only [not_or, Decidable.not_not]; exact ⟨s1, s2, s3, s4'⟩)]
      have HR := hid hread
      clear hread
      have hS2 : (s4.toList == [119, 101, 102, 116]) = true := by rw [hs4, toList_bytes, s2]; rfl
      have i2 : ¬ (bs.length : Int) > 1048576 := by omega
      have i3 : ¬ ((num bs 8 : Nat) : Int) > 1048560 := by omega
      have hq4 : ∀ m, Calls Tryd.prog 78 #[.slice (some ⟨b0, o0, none⟩) bs.length c, .int .i64 4] (W0.drewN m) fun e w' => e = .returned (.int .u32 (num bs 4 : Nat)) ∧ ∃ k, w' = W0.drewN k := fun m =>
        long_q 4 (ha.keep (k0.old _)) rfl (by omega)
      have l4 := num_lt bs 4
      have HA := hid ha
      have HT := hid hT
      clear hs4 s2 ha hT r4 r12
      rw [← s3] at hs12
      clear s3
      generalize num bs 12 = p at *
      generalize hn8 : num bs 8 = n8 at *
      generalize hn4 : num bs 4 = n4 at *
      have HN := hid (And.intro hn8 hn4)
      clear hn8 hn4
      go_enter Tryd.func61, Tryd.ntmps61
      go_upto_region 1 with fail
      rw [← hW0]
      clear hW0
      go_wp2
      go_quiet (first | (go_at_call 75; exact hs12 _) | (go_at_call 78; first | with_reducible exact hq12 _ | with_reducible exact hq8 _))
      clear hcv hS2 hs12 hq12
      go_upto_region 6 with (go_at_call 78; refine (hq4 nq).mono ?_; rintro e w1 ⟨rfl, k4, hw1⟩; have K01 : Old W0 w1 := (by rw [hw1]; exact (Keeps.refl _ _).drewN _); clear hw1 hq4)
      obtain ⟨w2, hw2⟩ : ∃ W, W = w1.alloc (.cells #[.int .i64 3, .int .u32 (n4 : Int), .slice none 0 0, .int .i64 16] 105) := ⟨_, rfl⟩
      rw [← hw2]
      have K12 : Old w1 w2 := by rw [hw2]; exact (Keeps.refl _ _).alloc _
      have hb3 : w2.heap[w1.heap.size]? = some (.cells #[.int .i64 3, .int .u32 (n4 : Int), .slice none 0 0, .int .i64 16] 105 (0, 0)) := by rw [hw2]; exact heap_alloc_new _ _
      clear hw2
      obtain ⟨b3, hb3e⟩ : ∃ b3, b3 = w1.heap.size := ⟨_, rfl⟩
      rw [← hb3e] at hb3 ⊢
      have hlt3 : w.heap.size < b3 := by have := lt_of_heap hb0; have := K01.size; omega
      clear hb3e
      have K02 := k0.trans' (K01.trans' K12)
      have hb2 := (K01.trans' K12).heap hb0 trivial
      have hq8b : Calls Tryd.prog 78 #[.slice (some ⟨b0, o0, none⟩) bs.length c, .int .i64 8] w2 fun e w' => e = .returned (.int .u32 (n8 : Nat)) ∧ ∃ k, w2.drewN k = w' := by
        have := long_any w2 S _ bs.length c bs 8 (HA.out.keep (K02.old _)) rfl (by omega)
        rw [HN.out.1] at this
        exact this
      clear hq8 KQ K01 K12 k0 f0 g0 g1 g2 g3 hb0
      go_upto_region 7 with (go_at_call 78; refine hq8b.mono ?_; rintro e w3 ⟨rfl, k8, hw3⟩; have K23 : Old w2 w3 := (by rw [← hw3]; exact (Keeps.refl _ _).drewN _); clear hw3 hq8b)
      replace hb2 := K23.heap hb2 trivial
      replace hb3 := K23.heap hb3 trivial
      have K03 := K02.trans' K23
      clear K02 K23
      by_cases htorn : bs.length < 16 + n8
      · have j1 : (bs.length : Int) < 16 + (n8 : Int) := by omega
        have f0 : ∀ j, w3.frozen? ⟨w.heap.size, j, none⟩ = false := fun j => frozen_of_heap hb2
        have g0 : w3.cell? ⟨w.heap.size, 0, none⟩ = some (.int .i64 0) := cell_of_heap hb2
        have g1 : w3.cell? ⟨w.heap.size, 1, none⟩ = some (.int .u32 0) := cell_of_heap hb2
        have g2 : w3.cell? ⟨w.heap.size, 2, none⟩ = some (.slice none 0 0) := cell_of_heap hb2
        have g3 : w3.cell? ⟨w.heap.size, 3, none⟩ = some (.int .i64 0) := cell_of_heap hb2
        go_wp2
        rw [HR.out, if_pos htorn]
        exact scan_end (r := .torn) (q := []) rfl rfl (set_four hb2 _ _ _ _) rfl (OwnR.nil _ _) (K03.trans (keeps_four _ _ _ _) fun k hk _ => by omega)
      · have j1 : ¬ (bs.length : Int) < 16 + (n8 : Int) := by omega
        have g3 : w3.cell? ⟨b3, 3, none⟩ = some (.int .i64 16) := cell_of_heap hb3
        have e16 : ((16 : Int) == 16 + (n8 : Int)) = decide (16 = 16 + n8) := by
          rw [Bool.eq_iff_iff, beq_iff_eq, decide_eq_true_iff]
          omega
        have HR2 : Hid (readA bs = scanL bs n4 (16 + n8) [] 16 (decide (16 = 16 + n8))) := hid (by rw [HR.out, if_neg htorn])
        rw [← e16] at HR2
        clear HR e16 SPO i12 i12' i4 i4' i3 j1
        go_wp2
        go_loopw [5, 6, 7, 8, 9] (fun m _ _ _ _ wr => InScan w bs n4 (16 + n8) b3 m wr) (fun _ _ _ _ _ wr => bs.length - endOf b3 wr)
        case atStart => exact ⟨[], 16, _, .slice none 0 0, [], rfl, HR2.out, by omega, by simp, hb3, hb2, rfl, OwnR.nil _ _, K03⟩
        case round =>
          clear g3 hb2 hb3 K03 HR2
          obtain ⟨recs, e, met, L, q, rfl, hsc, he, hcnt, hb3, hb2, hq, ho, hold⟩ := hrel
          have HSC := hid hsc
          clear hsc
          have g1 : wr.cell? ⟨b3, 1, none⟩ = some (.int .u32 (n4 : Int)) := cell_of_heap hb3
          have g2 : wr.cell? ⟨b3, 2, none⟩ = some L := cell_of_heap hb3
          have g3 : wr.cell? ⟨b3, 3, none⟩ = some (.int .i64 (e : Int)) := cell_of_heap hb3
          have hqn : q.length = recs.length := by rw [← hq]; simp
          obtain ⟨AL, cL, hL, hcL, _⟩ := own_slice ho.row
          rw [hqn] at hL hcL
          subst hL
          have hk0 : IntKind.i64.wrap ((bs.length : Int) - (e : Int)) = (bs.length : Int) - (e : Int) := by rw [IntKind.wrap_i64]; omega
          by_cases hlt : e + 12 ≤ bs.length
          · have j1 : (12 : Int) ≤ (bs.length : Int) - (e : Int) := by omega
            have b4 : IntKind.i64.wrap ((e : Int) + 4) = (e : Int) + 4 := by rw [IntKind.wrap_i64]; omega
            have b8 : IntKind.i64.wrap ((e : Int) + 8) = (e : Int) + 8 := by rw [IntKind.wrap_i64]; omega
            have hql : ∀ (a : Nat) (z : Int), z = a → a + 4 ≤ bs.length → ∀ m, Calls Tryd.prog 78 #[.slice (some ⟨b0, o0, none⟩) bs.length c, .int .i64 z] (wr.drewN m) fun e w' => e = .returned (.int .u32 (num bs a : Nat)) ∧ ∃ k, w' = wr.drewN k := fun a z hz h4 m => by
              rw [hz]
              exact long_q a (HA.out.keep (hold.old _)) rfl h4
            have hqa := hql e (e : Int) rfl (by omega)
            have hqb := hql (e + 4) ((e : Int) + 4) (by omega) (by omega)
            clear hql
            have ln := num_lt bs e
            have ls := num_lt bs (e + 4)
            generalize hnn : num bs e = nn at *
            generalize hss : num bs (e + 4) = ss at *
            have HNS := hid (And.intro hnn hss)
            clear hnn hss
            go_wp2
            go_quiet (first | (go_at_call 78; first | with_reducible exact hqa _ | with_reducible exact hqb _))
            clear hqa hqb
            go_wp2
            obtain ⟨w4, hw4⟩ : ∃ w4, w4 = wr.drewN nq := ⟨_, rfl⟩
            rw [← hw4]
            have K34 : Old wr w4 := by rw [hw4]; exact (Keeps.refl _ _).drewN _
            clear hw4
            refine wp_region_quiet (C := fun w' => Old wr w') (by kernel_rfl) (by kernel_rfl) (K34.drewN 1) ?_
            iterate 4 (refine wq_take (v := ?_) (by rfl) (fun w' hC => ?_) ?_; rotate_left 1; (have s1 := (hC.cell (lt_of_cell g1) trivial).trans g1; have s2 := (hC.cell (lt_of_cell g2) trivial).trans g2; have s3 := (hC.cell (lt_of_cell g3) trivial).trans g3; go_simp <;> (try rw [if_pos (by omega)]) <;> (try with_reducible rfl)); (simp only [Act.put, List.setIfInBounds_toArray, List.set_cons_zero, List.set_cons_succ]))
            refine wq_call (v := .int .u32 (num bs (e + 8) : Nat)) (f := 78) (args := #[.slice (some ⟨b0, o0, none⟩) bs.length c, .int .i64 ((e : Int) + 8)]) (by rfl) (fun w' hC => by go_simp) (fun w' hC => ?_) ?_
            · have := long_any w' S (some ⟨b0, o0, none⟩) bs.length c bs (e + 8) (HA.out.keep ((hold.trans' hC).old _)) rfl (by omega)
              rw [show ((e + 8 : Nat) : Int) = (e : Int) + 8 by omega] at this
              refine this.mono ?_
              rintro e w'' ⟨rfl, k, rfl⟩
              exact ⟨rfl, hC.drewN k⟩
            simp only [Act.put, List.setIfInBounds_toArray, List.set_cons_zero, List.set_cons_succ]
            have hql32 : recs.length < 4294967296 := by omega
            have hw1 : IntKind.u32.wrap (recs.length : Int) = (recs.length : Int) := by rw [IntKind.wrap_u32]; omega
            iterate 8 (refine wq_take (v := ?_) (by rfl) (fun w' hC => ?_) ?_; rotate_left 1; (have s1 := (hC.cell (lt_of_cell g1) trivial).trans g1; have s2 := (hC.cell (lt_of_cell g2) trivial).trans g2; have s3 := (hC.cell (lt_of_cell g3) trivial).trans g3; go_simp <;> (try rw [if_pos (by omega)]) <;> (try with_reducible rfl)); (simp only [Act.put, List.setIfInBounds_toArray, List.set_cons_zero, List.set_cons_succ]))
            refine wq_call (v := .int .u32 (sealN n4 recs.length nn ss : Nat)) (f := 77) (args := #[.int .u32 (n4 : Int), .int .u32 (recs.length : Int), .int .u32 (nn : Int), .int .u32 (ss : Int)]) (by rfl) (fun w' hC => by go_simp) (fun w' hC => ?_) ?_
            · refine (seal_any w' n4 recs.length nn ss (HT.out.keep (hold.trans' hC) trivial) l4 hql32 ln ls).mono ?_
              rintro e w'' ⟨rfl, k⟩
              exact ⟨rfl, hC.trans' k⟩
            simp only [Act.put, List.setIfInBounds_toArray, List.set_cons_zero, List.set_cons_succ]
            have hsp : ∀ W, W.heap[w.heap.size]? = some (.cells #[.int .i64 1, .int .u32 0, .slice none 0 0, .int .i64 0] 105 (0, 0)) → Old w W → ∀ a : Act, a.tmps[2]? = some (.pointer (some ⟨w.heap.size, 0, none⟩)) → a.defers = [] → readA bs = .spoilt → bodyPost Tryd.prog Tryd.f61 (PostScan w (readA bs)) .ret a W := fun W h hk a h1 h2 he => by
              rw [he]
              exact scan_end (q := []) h1 h2 h rfl (OwnR.nil _ _) hk
            have HSP := hid hsp
            have hun : scanL bs n4 (16 + n8) recs e met = if num bs (e + 8) ≠ sealN n4 recs.length nn ss ∨ 65536 < nn then .spoilt
                else if bs.length < e + 12 + nn then (if met then ⟨3, n4, recs, e⟩ else .spoilt)
                else if crc ((bs.drop (e + 12)).take nn) ≠ ss then .spoilt
                else scanL bs n4 (16 + n8) (recs ++ [(bs.drop (e + 12)).take nn]) (e + 12 + nn) (met || (e + 12 + nn == 16 + n8)) := by
              rw [scanL, if_pos hlt, HNS.out.1, HNS.out.2]
            have HUN := hid hun
            clear hsp hun
            generalize num bs (e + 8) = x8 at *
            generalize sealN n4 recs.length nn ss = xs at *
            by_cases hbad : x8 ≠ xs ∨ 65536 < nn
            · have HRS : Hid (readA bs = .spoilt) := hid (by rw [HSC.out, HUN.out, if_pos hbad])
              by_cases hx : x8 = xs
              · subst hx
                have hgt : (nn : Int) > 65536 := by rcases hbad with h | h <;> omega
                iterate 5 (refine wq_take (v := ?_) (by rfl) (fun w' hC => ?_) ?_; rotate_left 1; (go_simp <;> (try with_reducible rfl)); (simp only [Act.put, List.setIfInBounds_toArray, List.set_cons_zero, List.set_cons_succ]))
                refine wpQuiet_nil ?_
                intro w5 K5
                have hb2' := K5.heap hb2 trivial
                have f0' : ∀ j, w5.frozen? ⟨w.heap.size, j, none⟩ = false := fun j => frozen_of_heap hb2'
                have p0 : w5.cell? ⟨w.heap.size, 0, none⟩ = some (.int .i64 0) := cell_of_heap hb2'
                have p1 : w5.cell? ⟨w.heap.size, 1, none⟩ = some (.int .u32 0) := cell_of_heap hb2'
                have p2 : w5.cell? ⟨w.heap.size, 2, none⟩ = some (.slice none 0 0) := cell_of_heap hb2'
                have p3 : w5.cell? ⟨w.heap.size, 3, none⟩ = some (.int .i64 0) := cell_of_heap hb2'
                go_wp2
                exact HSP.out _ (set_four hb2' _ _ _ _) ((hold.trans' K5).trans (keeps_four _ _ _ _) fun k hk _ => by omega) _ rfl rfl HRS.out
              · have hx1 : ((x8 : Int) == (xs : Int)) = false := by rw [beq_eq_false_iff_ne]; omega
                have hx2 : ((x8 : Int) != (xs : Int)) = true := by rw [bne, hx1]; rfl
                iterate 2 (refine wq_take (v := ?_) (by rfl) (fun w' hC => ?_) ?_; rotate_left 1; (go_simp <;> (try with_reducible rfl)); (simp only [Act.put, List.setIfInBounds_toArray, List.set_cons_zero, List.set_cons_succ]))
                iterate 2 (refine wq_pass (by rfl) ?_; simp only [Act.put, List.setIfInBounds_toArray, List.set_cons_zero, List.set_cons_succ])
                (refine wq_take (v := ?_) (by rfl) (fun w' hC => ?_) ?_; rotate_left 1; (go_simp <;> (try with_reducible rfl)); (simp only [Act.put, List.setIfInBounds_toArray, List.set_cons_zero, List.set_cons_succ]))
                refine wpQuiet_nil ?_
                intro w5 K5
                have hb2' := K5.heap hb2 trivial
                have f0' : ∀ j, w5.frozen? ⟨w.heap.size, j, none⟩ = false := fun j => frozen_of_heap hb2'
                have p0 : w5.cell? ⟨w.heap.size, 0, none⟩ = some (.int .i64 0) := cell_of_heap hb2'
                have p1 : w5.cell? ⟨w.heap.size, 1, none⟩ = some (.int .u32 0) := cell_of_heap hb2'
                have p2 : w5.cell? ⟨w.heap.size, 2, none⟩ = some (.slice none 0 0) := cell_of_heap hb2'
                have p3 : w5.cell? ⟨w.heap.size, 3, none⟩ = some (.int .i64 0) := cell_of_heap hb2'
                go_wp2
                exact HSP.out _ (set_four hb2' _ _ _ _) ((hold.trans' K5).trans (keeps_four _ _ _ _) fun k hk _ => by omega) _ rfl rfl HRS.out
            · simp only [not_or, Decidable.not_not] at hbad
              obtain ⟨rfl, hnn⟩ := hbad
              have hgt : ¬ (nn : Int) > 65536 := by omega
              iterate 5 (refine wq_take (v := ?_) (by rfl) (fun w' hC => ?_) ?_; rotate_left 1; (go_simp <;> (try with_reducible rfl)); (simp only [Act.put, List.setIfInBounds_toArray, List.set_cons_zero, List.set_cons_succ]))
              refine wpQuiet_nil ?_
              intro w5 K5
              clear K34
              have b12 : IntKind.i64.wrap ((e : Int) + 12) = (e : Int) + 12 := by rw [IntKind.wrap_i64]; omega
              have b13 : IntKind.i64.wrap ((e : Int) + 12 + (nn : Int)) = (e : Int) + 12 + (nn : Int) := by rw [IntKind.wrap_i64]; omega
              by_cases hbrk : bs.length < e + 12 + nn
              · have j2 : (bs.length : Int) < (e : Int) + 12 + (nn : Int) := by omega
                have HRD : Hid (readA bs = if met then ⟨3, n4, recs, e⟩ else .spoilt) := hid (by rw [HSC.out, HUN.out, if_neg (by simp only [not_or, Decidable.not_not]; exact ⟨trivial, hnn⟩), if_pos hbrk])
                have hb2' := K5.heap hb2 trivial
                have hb3' := K5.heap hb3 trivial
                have f0' : ∀ j, w5.frozen? ⟨w.heap.size, j, none⟩ = false := fun j => frozen_of_heap hb2'
                have p0 : w5.cell? ⟨w.heap.size, 0, none⟩ = some (.int .i64 0) := cell_of_heap hb2'
                have p1 : w5.cell? ⟨w.heap.size, 1, none⟩ = some (.int .u32 0) := cell_of_heap hb2'
                have p2 : w5.cell? ⟨w.heap.size, 2, none⟩ = some (.slice none 0 0) := cell_of_heap hb2'
                have p3 : w5.cell? ⟨w.heap.size, 3, none⟩ = some (.int .i64 0) := cell_of_heap hb2'
                have r0 : w5.cell? ⟨b3, 0, none⟩ = some (.int .i64 3) := cell_of_heap hb3'
                have r1 : w5.cell? ⟨b3, 1, none⟩ = some (.int .u32 (n4 : Int)) := cell_of_heap hb3'
                have r2 : w5.cell? ⟨b3, 2, none⟩ = some (.slice AL recs.length cL) := cell_of_heap hb3'
                have r3 : w5.cell? ⟨b3, 3, none⟩ = some (.int .i64 (e : Int)) := cell_of_heap hb3'
                cases met
                · go_wp2
                  rw [HRD.out]
                  exact scan_end (r := .spoilt) (q := []) rfl rfl (set_four hb2' _ _ _ _) rfl (OwnR.nil _ _) ((hold.trans' K5).trans (keeps_four _ _ _ _) fun k hk _ => by omega)
                · go_wp2
                  rw [HRD.out]
                  exact scan_end (r := ⟨3, n4, recs, e⟩) (q := q) rfl rfl (set_four hb2' _ _ _ _) hq ((((ho.keep (K5.old _))).keep ((keeps_four _ _ _ _).mono fun k _ h => by have h' : b3 < k := h; show k ≠ w.heap.size; omega)).mono fun k _ h => by have h' : b3 < k := h; show w.heap.size ≤ k; omega) ((hold.trans' K5).trans (keeps_four _ _ _ _) fun k hk _ => by omega)
              · have j2 : ¬ (bs.length : Int) < (e : Int) + 12 + (nn : Int) := by omega
                obtain ⟨rec, hrec⟩ : ∃ rec, rec = (bs.drop (e + 12)).take nn := ⟨_, rfl⟩
                have hrl : rec.length = nn := by rw [hrec]; simp; omega
                have hb2' := K5.heap hb2 trivial
                have hb3' := K5.heap hb3 trivial
                have r3 : w5.cell? ⟨b3, 3, none⟩ = some (.int .i64 (e : Int)) := cell_of_heap hb3'
                have K05 := hold.trans' K5
                have j5 : (0 : Int) ≤ (e : Int) + 12 := by omega
                have j6 : (e : Int) + 12 ≤ (e : Int) + 12 + (nn : Int) := by omega
                have j7 : (e : Int) + 12 + (nn : Int) ≤ (c : Int) := by omega
                have j8 : ((e : Int) + 12).toNat = e + 12 := by omega
                have j9 : ((e : Int) + 12 + (nn : Int)).toNat = e + 12 + nn := by omega
                have j10 : e + 12 ≤ e + 12 + nn := by omega
                have j11 : e + 12 + nn ≤ c := by omega
                have j12 : e + 12 + nn - (e + 12) = nn := by omega
                go_upto_region 16 with fail
                go_cut [9] (fun v wx => ∃ X c', v = .slice X nn c' ∧ nn ≤ c' ∧ Bts S wx X rec ∧ wx = w5)
                case first =>
                  have hbr : ∀ X, (0 < nn → X = some ⟨b0, o0 + (e + 12), none⟩) → Bts S w5 X rec := fun X hX => by
                    rw [hrec]
                    exact (HA.out.keep (K05.old _)).part (by omega) fun h0 b o he => by injection he with he; injection he with h1 h2 _; rw [hX h0, ← h1, ← h2]
                  have HBR := hid hbr
                  clear hbr
                  go_wp2
                  all_goals (
                    try (have hce : c = e + 12 := by assumption
                         subst hce)
                    go_meet
                    refine ⟨_, _, rfl, ?_, HBR.out _ ?_, rfl⟩
                    · omega
                    · intro h0
                      first
                      | rfl
                      | (exfalso; omega))
                case rest =>
                obtain ⟨X, c', rfl, hcX, hbX, rfl⟩ := hcut
                have hsum : Calls Tryd.prog 75 #[.slice X nn c'] wc fun e w' => e = .returned (.int .u32 (crc rec : Nat)) ∧ wc = w' := by
                  have := sum_any wc S X c' rec (HT.out.keep K05 trivial) hbX
                  rw [hrl] at this
                  exact this
                have lc := crc_lt rec
                go_wp2_with fail
                refine hsum.mono ?_
                rintro e' w6 ⟨rfl, rfl⟩
                clear hsum
                by_cases hcrc : crc rec = ss
                · have HG : Hid (readA bs = scanL bs n4 (16 + n8) (recs ++ [rec]) (e + 12 + nn) (met || (e + 12 + nn == 16 + n8))) := hid (by
                    rw [HSC.out, HUN.out, if_neg (by simp only [not_or, Decidable.not_not]; exact ⟨trivial, hnn⟩), if_neg hbrk, ← hrec, if_neg (by simp only [Decidable.not_not]; exact hcrc)])
                  rw [hcrc]
                  clear hcrc lc hrec
                  have r2 : wc.cell? ⟨b3, 2, none⟩ = some (.slice AL recs.length cL) := cell_of_heap hb3'
                  go_wp2
                  have how := ho.keep (K5.old _)
                  refine wp_region_planP (fun w' => w'.cell? ⟨b3, 2, none⟩ = some (.slice AL recs.length cL)) 6 (tks [0, 1, 2] ++ lds [3, 4, 5]) (by kernel_rfl) (by kernel_rfl) r2 ?_
                  iterate 3 (refine planP_take (v := ?_) (by rfl) (by rfl) (fun w' hS => ?_) ?_; rotate_left 1; (go_simp <;> (try with_reducible rfl)); (simp only [Act.put, List.setIfInBounds_toArray, List.set_cons_zero, List.set_cons_succ]))
                  have hcl := jclone_any wc.drew S X nn c' rec (hbX.keep ((Keeps.refl _ _).drew)) hrl.symm (by omega)
                  refine planP_loud (by rfl) (by rfl) (fun K hK => ?_)
                  go_wp2_with (go_at_call 57; refine hcl.mono ?_)
                  rintro e' w6 ⟨v, rfl, hv, k6⟩
                  clear hcl
                  have K56 : Old wc w6 := k6.ofDrew
                  refine hK _ _ ((K56.cell (lt_of_cell r2) trivial).trans r2) ?_
                  clear hK K
                  obtain ⟨Av, cv, rfl, _, _⟩ := hv.slice
                  rw [hrl] at hv
                  simp only [hrl]
                  refine planP_loud (by rfl) (by rfl) (fun K hK => ?_)
                  go_wp2
                  obtain ⟨w7, hw7⟩ : ∃ W, W = w6.alloc (.cells #[.slice Av nn cv] 22) := ⟨_, rfl⟩
                  rw [← hw7]
                  have K67 : Old w6 w7 := by rw [hw7]; exact (Keeps.refl _ _).alloc _
                  have hb7 : w7.heap[w6.heap.size]? = some (.cells #[.slice Av nn cv] 22 (0, 0)) := by rw [hw7]; exact heap_alloc_new _ _
                  clear hw7
                  have K57 := K56.trans' K67
                  refine hK _ _ ((K57.cell (lt_of_cell r2) trivial).trans r2) ?_
                  clear hK K
                  have ho7 := how.keep (K57.old _)
                  have hrow7 := ho7.row
                  refine planP_loud (by rfl) (by rfl) (fun K hK => ?_)
                  refine wp_append_ex w7 _ _ 35 22 (by rfl) Tryd.underlying35 info22 (by rfl) (by omega) (by rfl) hrow7 (some ⟨w6.heap.size, 0, none⟩) 1 1 [.slice Av nn cv] (by rfl) (by rfl) (fun _ => ⟨_, rfl, World.news_of_block hb7⟩) (one_one (by rfl)) (by omega) (by unfold maxLen; omega) ?_
                  intro v2 w8 hown8 hgrow8 hat8
                  simp only [Act.put, List.setIfInBounds_toArray, List.set_cons_zero, List.set_cons_succ]
                  have hsz := K57.size
                  have hs56 := K56.size
                  have hltL : ∀ k, (Value.slice AL recs.length cL).ownBlock = some k → b3 < k := how.foot
                  have K78 : Keeps (fun k => (Value.slice AL recs.length cL).ownBlock ≠ some k) w7 w8 := (Keeps.refl _ w7).grown hgrow8 (fun k _ h hn => hn h)
                  have K58 : Keeps (fun k => k ≤ b3) wc w8 := (K57.old _).trans (K78.mono fun k _ h hk => by have h' : k ≤ b3 := h; have := hltL k hk; omega) fun _ _ h => h
                  have hb38 := K58.heap hb3' (Nat.le_refl _)
                  have hb28 := K58.heap hb2' (by omega)
                  have hlb3 := lt_of_heap hb3'
                  have OR8 : OwnR (fun k => b3 < k) w8 v2 (q ++ [(rec, .slice Av nn cv)]) := by
                    refine (ho7.push (x := (rec, .slice Av nn cv)) K78 (hv.keep (K67.old _)) hown8 fun y hy k hk hv' => by
                      have h1 := own_lt (how.own y hy).row hk
                      have h2 : wc.drew.heap.size ≤ k := hv.foot k hv'
                      simp at h2; omega).mono fun k hk h => ?_
                    rcases h with h | h | h
                    · exact h
                    · have h' : wc.drew.heap.size ≤ k := h
                      simp at h'; omega
                    · rcases hat8 with e8 | e8
                      · rw [e8] at h; exact hltL k h
                      · rw [e8] at h; injection h with h; omega
                  obtain ⟨A8, c8, hv2, hc8, _⟩ := own_slice hown8
                  rw [hqn] at hv2
                  subst hv2
                  refine hK _ _ ((K58.cell (lt_of_cell r2) (Nat.le_refl _)).trans r2) ?_
                  clear hK K
                  have p2 : w8.cell? ⟨b3, 2, none⟩ = some (.slice AL recs.length cL) := cell_of_heap hb38
                  have p3 : w8.cell? ⟨b3, 3, none⟩ = some (.int .i64 (e : Int)) := cell_of_heap hb38
                  have f8 : ∀ j, w8.frozen? ⟨b3, j, none⟩ = false := fun j => frozen_of_heap hb38
                  refine planP_tail (by rfl) ?_
                  go_wp2
                  refine NoPanic.normal ?_
                  have fin : ∀ (m : Bool), m = (met || (e + 12 + nn == 16 + n8)) → InScan w bs n4 (16 + n8) b3 (.bool m) ((w8.setCell ⟨b3, 2, none⟩ (.slice A8 (recs.length + 1) c8)).setCell ⟨b3, 3, none⟩ (.int .i64 ((e : Int) + 12 + (nn : Int)))) := fun m hm => by
                    rw [show (e : Int) + 12 + (nn : Int) = ((e + 12 + nn : Nat) : Int) by omega]
                    have KS : Keeps (· ≠ b3) w8 ((w8.setCell ⟨b3, 2, none⟩ (.slice A8 (recs.length + 1) c8)).setCell ⟨b3, 3, none⟩ (.int .i64 ((e + 12 + nn : Nat) : Int))) := ((Keeps.refl _ _).setCell (fun _ h => h rfl) _).setCell (fun _ h => h rfl) _
                    refine ⟨recs ++ [rec], e + 12 + nn, m, .slice A8 (recs.length + 1) c8, q ++ [(rec, .slice Av nn cv)], rfl, by rw [hm]; exact HG.out, by omega, by simp; omega, ?_, KS.heap hb28 (by omega), by rw [List.map_append, hq]; rfl, OR8.keep (KS.mono fun k _ h => by have h' : b3 < k := h; show k ≠ b3; omega), ?_⟩
                    · rw [heap_setCell (heap_setCell hb38 _)]
                      rfl
                    · exact (K05.trans K58 fun k hk _ => by show k ≤ b3; omega).trans KS fun k hk _ => by show k ≠ b3; omega
                  have FIN := hid fin
                  have hen : endOf b3 ((w8.setCell ⟨b3, 2, none⟩ (.slice A8 (recs.length + 1) c8)).setCell ⟨b3, 3, none⟩ (.int .i64 ((e : Int) + 12 + (nn : Int)))) = e + 12 + nn := by
                    refine endOf_eq ?_
                    rw [cell_of_heap (heap_setCell (heap_setCell hb38 _) _)]
                    rw [show (e : Int) + 12 + (nn : Int) = ((e + 12 + nn : Nat) : Int) by omega]
                    rfl
                  have HEN := hid hen
                  clear hen
                  have hee : endOf b3 wr = e := endOf_eq g3
                  have HEE := hid hee
                  clear fin hee OR8 hb28 hb38 K58 K78 K57 K56 K67
                  cases met
                  · go_wp2
                    refine ⟨FIN.out _ ?_, by rw [HEN.out, HEE.out]; omega⟩
                    rw [Bool.false_or, Bool.eq_iff_iff, beq_iff_eq, beq_iff_eq]
                    omega
                  · go_wp2
                    exact ⟨FIN.out _ (Bool.true_or _).symm, by rw [HEN.out, HEE.out]; omega⟩
                · have HRS : Hid (readA bs = .spoilt) := hid (by
                    rw [HSC.out, HUN.out, if_neg (by simp only [not_or, Decidable.not_not]; exact ⟨trivial, hnn⟩), if_neg hbrk, ← hrec, if_pos hcrc])
                  generalize crc rec = kc at *
                  have hx2 : ((kc : Int) == (ss : Int)) = false := by rw [beq_eq_false_iff_ne]; omega
                  have hx3 : ((kc : Int) != (ss : Int)) = true := by rw [bne, hx2]; rfl
                  clear hcrc
                  have f0' : ∀ j, wc.frozen? ⟨w.heap.size, j, none⟩ = false := fun j => frozen_of_heap hb2'
                  have p0 : wc.cell? ⟨w.heap.size, 0, none⟩ = some (.int .i64 0) := cell_of_heap hb2'
                  have p1 : wc.cell? ⟨w.heap.size, 1, none⟩ = some (.int .u32 0) := cell_of_heap hb2'
                  have p2 : wc.cell? ⟨w.heap.size, 2, none⟩ = some (.slice none 0 0) := cell_of_heap hb2'
                  have p3 : wc.cell? ⟨w.heap.size, 3, none⟩ = some (.int .i64 0) := cell_of_heap hb2'
                  go_wp2
                  exact HSP.out _ (set_four hb2' _ _ _ _) (K05.trans (keeps_four _ _ _ _) fun k hk _ => by omega) _ rfl rfl HRS.out
          · have j1 : ¬ (12 : Int) ≤ (bs.length : Int) - (e : Int) := by omega
            have HRD : Hid (readA bs = if met then ⟨3, n4, recs, e⟩ else .spoilt) := hid (by rw [HSC.out, scanL, if_neg hlt])
            have hb2' := hb2
            have hb3' := hb3
            have f0' : ∀ j, wr.frozen? ⟨w.heap.size, j, none⟩ = false := fun j => frozen_of_heap hb2'
            have p0 : wr.cell? ⟨w.heap.size, 0, none⟩ = some (.int .i64 0) := cell_of_heap hb2'
            have p1 : wr.cell? ⟨w.heap.size, 1, none⟩ = some (.int .u32 0) := cell_of_heap hb2'
            have p2 : wr.cell? ⟨w.heap.size, 2, none⟩ = some (.slice none 0 0) := cell_of_heap hb2'
            have p3 : wr.cell? ⟨w.heap.size, 3, none⟩ = some (.int .i64 0) := cell_of_heap hb2'
            have r0 : wr.cell? ⟨b3, 0, none⟩ = some (.int .i64 3) := cell_of_heap hb3'
            have r1 : wr.cell? ⟨b3, 1, none⟩ = some (.int .u32 (n4 : Int)) := cell_of_heap hb3'
            have r2 : wr.cell? ⟨b3, 2, none⟩ = some (.slice AL recs.length cL) := cell_of_heap hb3'
            have r3 : wr.cell? ⟨b3, 3, none⟩ = some (.int .i64 (e : Int)) := cell_of_heap hb3'
            cases met
            · go_wp2
              rw [HRD.out]
              exact scan_end (r := .spoilt) (q := []) rfl rfl (set_four hb2' _ _ _ _) rfl (OwnR.nil _ _) (hold.trans (keeps_four _ _ _ _) fun k hk _ => by omega)
            · go_wp2
              rw [HRD.out]
              exact scan_end (r := ⟨3, n4, recs, e⟩) (q := q) rfl rfl (set_four hb2' _ _ _ _) hq (((ho).keep ((keeps_four _ _ _ _).mono fun k _ h => by have h' : b3 < k := h; show k ≠ w.heap.size; omega)).mono fun k _ h => by have h' : b3 < k := h; show w.heap.size ≤ k; omega) (hold.trans (keeps_four _ _ _ _) fun k hk _ => by omega)
end Go.Proofs.YtdpaaoeipconcaaDoor
