/- weftref12.Read: how an area reads, by the document: as journal.scanned. Conditions: the bytes can be read. -/
import Derived.Test.YtdpaaoeipconcaaDoorJScan
namespace Go.Proofs.YtdpaaoeipconcaaDoor
open Go.RowKit

theorem number_q {w : World} {S : Nat → Prop} {A : Option Addr} {n c : Nat} {bs : List UInt8} {m : Nat} (a : Nat) (z : Int) (hz : z = a) (ha : Bts S w A bs) (hn : n = bs.length) (h4 : a + 4 ≤ n) :
    Calls Tryd.prog 80 #[.slice A n c, .int .i64 z] (w.drewN m) fun e w' => e = .returned (.int .i64 (num bs a : Nat)) ∧ ∃ k, w' = w.drewN k := by
  subst hz
  exact (number_any (w.drewN m) S A n c bs a (ha.keep ((Keeps.refl _ _).drewN _)) hn h4).mono fun e w' ⟨h, k, hk⟩ => ⟨h, m + k, by rw [← hk, World.drewN_drewN]⟩
theorem crc_q {w : World} {S : Nat → Prop} {A : Option Addr} {n c : Nat} {bs : List UInt8} {m : Nat} (ha : Bts S w A bs) (hn : n = bs.length) :
    Calls Tryd.prog 68 #[.slice A n c] (w.drewN m) fun e w' => e = .returned (.int .i64 (crc bs : Nat)) ∧ ∃ k, w' = w.drewN k :=
  (crc_any (w.drewN m) S A n c bs (ha.keep ((Keeps.refl _ _).drewN _)) hn).mono fun _ _ ⟨h, hk⟩ => ⟨h, m, hk.symm⟩

theorem magic_num (bs : List UInt8) (h : 4 ≤ bs.length) : bs.take 4 = [119, 101, 102, 116] ↔ num bs 0 = 2003134068 := by
  constructor
  · intro he
    have : num bs 0 = num (bs.take 4 ++ bs.drop 4) 0 := by rw [List.take_append_drop]
    rw [this, he]
    simp [num]
  · intro he
    have := four_num bs 0 (by omega)
    rw [he] at this
    rw [List.drop_zero] at this
    rw [← this]
    decide
theorem eight_num (bs : List UInt8) (e : Nat) (h : e + 8 ≤ bs.length) : (bs.drop e).take 8 = four (num bs e) ++ four (num bs (e + 4)) := by
  rw [four_num bs e (by omega), four_num bs (e + 4) (by omega), show 8 = 4 + 4 from rfl, List.take_add, List.drop_drop]

def PostRead (w : World) (r : Ar) (e : Ending) (w' : World) : Prop :=
  ∃ L q, e = .returned (.agg #[.int .i64 (r.state : Int), .int .i64 (r.gen : Int), L, .int .i64 (r.end_ : Int)]) ∧ q.map (·.1) = r.recs ∧ OwnR (fun k => w.heap.size ≤ k) w' L q ∧ Old w w'

/-- The call's end: what lies in the result's cells. -/
theorem read_end {w W : World} {a : Act} {r : Ar} {L : Value} {q : List (List UInt8 × Value)} (ht : a.tmps[2]? = some (.pointer (some ⟨w.heap.size, 0, none⟩))) (hd : a.defers = [])
    (hb : W.heap[w.heap.size]? = some (.cells #[.int .i64 (r.state : Int), .int .i64 (r.gen : Int), L, .int .i64 (r.end_ : Int)] 112 (0, 0))) (hq : q.map (·.1) = r.recs) (ho : OwnR (fun k => w.heap.size ≤ k) W L q) (hk : Old w W) :
    bodyPost Tryd.prog Tryd.f69 (PostRead w r) .ret a W := by
  have d0 : W.cell? ⟨w.heap.size, 0, none⟩ = some (.int .i64 (r.state : Int)) := cell_of_heap hb
  have d1 : W.cell? ⟨w.heap.size, 1, none⟩ = some (.int .i64 (r.gen : Int)) := cell_of_heap hb
  have d2 : W.cell? ⟨w.heap.size, 2, none⟩ = some L := cell_of_heap hb
  have d3 : W.cell? ⟨w.heap.size, 3, none⟩ = some (.int .i64 (r.end_ : Int)) := cell_of_heap hb
  refine bodyPost_ret (v := .agg #[.int .i64 (r.state : Int), .int .i64 (r.gen : Int), L, .int .i64 (r.end_ : Int)]) ?_ hd ⟨L, q, rfl, hq, ho, hk⟩
  simp [results, Tryd.results69, go_sem, ht, d0, d1, d2, d3]

/-- ahead of a round of Read: a lies at b3 -/
def InRead (w : World) (bs : List UInt8) (gen base b3 : Nat) (m : Value) (wr : World) : Prop :=
  ∃ (recs : List (List UInt8)) (e : Nat) (met : Bool) (L : Value) (q : List (List UInt8 × Value)), m = .bool met ∧ readA bs = scanL bs gen base recs e met ∧ e ≤ bs.length ∧ 16 + 12 * recs.length ≤ e ∧
    wr.heap[b3]? = some (.cells #[.int .i64 3, .int .i64 (gen : Int), L, .int .i64 (e : Int)] 112 (0, 0)) ∧
    wr.heap[w.heap.size]? = some (.cells #[.int .i64 0, .int .i64 0, .slice none 0 0, .int .i64 0] 112 (0, 0)) ∧ q.map (·.1) = recs ∧ OwnR (fun k => b3 < k) wr L q ∧ Old w wr

set_option maxRecDepth 10000 in
set_option maxHeartbeats 4000000 in
theorem read_any (w : World) (S : Nat → Prop) (A : Option Addr) (n c : Nat) (bs : List UInt8) (ha : Bts S w A bs) (hn : n = bs.length) (hc : n ≤ c) :
    Calls Tryd.prog 69 #[.slice A n c] w (PostRead w (readA bs)) := by
  subst hn
  have hal := ha.1
  obtain ⟨W0, hW0⟩ : ∃ W, W = w.alloc (.cells #[.int .i64 0, .int .i64 0, .slice none 0 0, .int .i64 0] 112) := ⟨_, rfl⟩
  have k0 : Old w W0 := by rw [hW0]; exact (Keeps.refl _ _).alloc _
  have hb0 : W0.heap[w.heap.size]? = some (.cells #[.int .i64 0, .int .i64 0, .slice none 0 0, .int .i64 0] 112 (0, 0)) := by rw [hW0]; exact heap_alloc_new _ _
  have f0 : ∀ j, W0.frozen? ⟨w.heap.size, j, none⟩ = false := fun j => frozen_of_heap hb0
  have g0 : W0.cell? ⟨w.heap.size, 0, none⟩ = some (.int .i64 0) := cell_of_heap hb0
  have g1 : W0.cell? ⟨w.heap.size, 1, none⟩ = some (.int .i64 0) := cell_of_heap hb0
  have g2 : W0.cell? ⟨w.heap.size, 2, none⟩ = some (.slice none 0 0) := cell_of_heap hb0
  have g3 : W0.cell? ⟨w.heap.size, 3, none⟩ = some (.int .i64 0) := cell_of_heap hb0
  by_cases h16 : bs.length < 16
  · have i1 : (bs.length : Int) < 16 := by omega
    have e : readA bs = .short := by rw [readA, if_pos h16]
    rw [e]
    go_enter Tryd.func69, Tryd.ntmps69
    go_upto_region 1 with fail
    rw [← hW0]
    clear hW0
    go_wp2
    exact read_end (q := []) rfl rfl (set_four hb0 _ _ _ _) rfl (OwnR.nil _ _) (k0.trans (keeps_four _ _ _ _) fun k hk _ => by omega)
  · obtain ⟨b0, o0, rfl⟩ := ha.addr (by omega)
    have i1 : ¬ (bs.length : Int) < 16 := by omega
    have r12 := ha.take (n := 12) (by omega)
    have i12 : (12 : Nat) ≤ c := by omega
    have i12' : (12 : Int) ≤ (c : Int) := by omega
    have hq0 : ∀ m, Calls Tryd.prog 80 #[.slice (some ⟨b0, o0, none⟩) bs.length c, .int .i64 0] (W0.drewN m) fun e w' => e = .returned (.int .i64 (num bs 0 : Nat)) ∧ ∃ k, w' = W0.drewN k := fun m => number_q 0 0 rfl (ha.keep (k0.old _)) rfl (by omega)
    have hq12 : ∀ m, Calls Tryd.prog 80 #[.slice (some ⟨b0, o0, none⟩) bs.length c, .int .i64 12] (W0.drewN m) fun e w' => e = .returned (.int .i64 (num bs 12 : Nat)) ∧ ∃ k, w' = W0.drewN k := fun m => number_q 12 12 rfl (ha.keep (k0.old _)) rfl (by omega)
    have hq8 : ∀ m, Calls Tryd.prog 80 #[.slice (some ⟨b0, o0, none⟩) bs.length c, .int .i64 8] (W0.drewN m) fun e w' => e = .returned (.int .i64 (num bs 8 : Nat)) ∧ ∃ k, w' = W0.drewN k := fun m => number_q 8 8 rfl (ha.keep (k0.old _)) rfl (by omega)
    have hs12 : ∀ m, Calls Tryd.prog 68 #[.slice (some ⟨b0, o0, none⟩) 12 c] (W0.drewN m) fun e w' => e = .returned (.int .i64 (crc (bs.take 12) : Nat)) ∧ ∃ k, w' = W0.drewN k := fun m => crc_q (r12.keep (k0.old _)) (by simp; omega)
    have spo : ∀ W, W.heap[w.heap.size]? = some (.cells #[.int .i64 1, .int .i64 0, .slice none 0 0, .int .i64 0] 112 (0, 0)) → Old w W → ∀ a : Act, a.tmps[2]? = some (.pointer (some ⟨w.heap.size, 0, none⟩)) → a.defers = [] → readA bs = .spoilt → bodyPost Tryd.prog Tryd.f69 (PostRead w (readA bs)) .ret a W := fun W h hk a h1 h2 he => by
      rw [he]
      exact read_end (q := []) h1 h2 h rfl (OwnR.nil _ _) hk
    have SPO := hid spo
    clear spo
    have kq : ∀ nq, Old w (W0.drewN nq) := fun nq => k0.trans ((Keeps.refl _ _).drewN nq) fun _ _ _ => trivial
    have hbq : ∀ nq, (W0.drewN nq).heap[w.heap.size]? = some (.cells #[.int .i64 0, .int .i64 0, .slice none 0 0, .int .i64 0] 112 (0, 0)) := fun nq => hb0
    have KQ := hid (And.intro kq hbq)
    clear kq hbq
    have hmag := magic_num bs (by omega)
    by_cases hspo : 1048576 < bs.length ∨ num bs 0 ≠ 2003134068 ∨ num bs 12 ≠ crc (bs.take 12) ∨ 1048560 < num bs 8
    · have hread : readA bs = .spoilt := by rw [readA, if_neg h16, if_pos (by rw [Ne, hmag]; exact hspo)]
      have HR := hid hread
      clear hread r12 ha hmag
      generalize num bs 12 = p at *
      generalize crc (bs.take 12) = q at *
      generalize num bs 8 = r at *
      generalize num bs 0 = m0 at *
      by_cases hbig : 1048576 < bs.length
      · have i2 : (bs.length : Int) > 1048576 := by omega
        clear hspo
        go_enter Tryd.func69, Tryd.ntmps69
        go_upto_region 1 with fail
        rw [← hW0]
        clear hW0
        go_wp2
        go_quiet (fail)
        go_wp2
        exact SPO.out _ (set_four (KQ.out.2 nq) _ _ _ _) ((KQ.out.1 nq).trans (keeps_four _ _ _ _) fun k hk _ => by omega) _ rfl rfl HR.out
      · have i2 : ¬ (bs.length : Int) > 1048576 := by omega
        by_cases hm : m0 = 2003134068
        · have hm1 : ((m0 : Int) == 2003134068) = true := by rw [beq_iff_eq]; omega
          have hm2 : ((m0 : Int) != 2003134068) = false := by rw [bne, hm1]; rfl
          by_cases hpq : p = q
          · have hr : (r : Int) > 1048560 := by
              rcases hspo with h | h | h | h
              · exact absurd h hbig
              · exact absurd hm h
              · exact absurd hpq h
              · omega
            subst hpq
            clear hspo hm
            go_enter Tryd.func69, Tryd.ntmps69
            go_upto_region 1 with fail
            rw [← hW0]
            clear hW0
            go_wp2
            go_quiet (first | (go_at_call 68; exact hs12 _) | (go_at_call 80; first | with_reducible exact hq0 _ | with_reducible exact hq12 _ | with_reducible exact hq8 _))
            go_wp2
            exact SPO.out _ (set_four (KQ.out.2 nq) _ _ _ _) ((KQ.out.1 nq).trans (keeps_four _ _ _ _) fun k hk _ => by omega) _ rfl rfl HR.out
          · have hp1 : ((p : Int) == (q : Int)) = false := by rw [beq_eq_false_iff_ne]; omega
            have hp2 : ((p : Int) != (q : Int)) = true := by rw [bne, hp1]; rfl
            clear hspo hm
            go_enter Tryd.func69, Tryd.ntmps69
            go_upto_region 1 with fail
            rw [← hW0]
            clear hW0
            go_wp2
            go_quiet (first | (go_at_call 68; exact hs12 _) | (go_at_call 80; first | with_reducible exact hq0 _ | with_reducible exact hq12 _ | with_reducible exact hq8 _))
            go_wp2
            exact SPO.out _ (set_four (KQ.out.2 nq) _ _ _ _) ((KQ.out.1 nq).trans (keeps_four _ _ _ _) fun k hk _ => by omega) _ rfl rfl HR.out
        · have hm1 : ((m0 : Int) == 2003134068) = false := by rw [beq_eq_false_iff_ne]; omega
          have hm2 : ((m0 : Int) != 2003134068) = true := by rw [bne, hm1]; rfl
          clear hspo hm
          go_enter Tryd.func69, Tryd.ntmps69
          go_upto_region 1 with fail
          rw [← hW0]
          clear hW0
          go_wp2
          go_quiet (first | (go_at_call 68; exact hs12 _) | (go_at_call 80; first | with_reducible exact hq0 _ | with_reducible exact hq12 _ | with_reducible exact hq8 _))
          go_wp2
          exact SPO.out _ (set_four (KQ.out.2 nq) _ _ _ _) ((KQ.out.1 nq).trans (keeps_four _ _ _ _) fun k hk _ => by omega) _ rfl rfl HR.out
    · simp only [not_or, Decidable.not_not] at hspo
      obtain ⟨s1, s2, s3, s4'⟩ := hspo
      have hread : readA bs = if bs.length < 16 + num bs 8 then .torn else scanL bs (num bs 4) (16 + num bs 8) [] 16 (decide (16 = 16 + num bs 8)) := by
        rw [readA, if_neg h16, if_neg (by rw [Ne, hmag]; simp only [not_or, Decidable.not_not]; exact ⟨s1, s2, s3, s4'⟩)]
      have HR := hid hread
      clear hread hmag
      have hm1 : ((num bs 0 : Nat) : Int) = 2003134068 := by omega
      have i2 : ¬ (bs.length : Int) > 1048576 := by omega
      have i3 : ¬ ((num bs 8 : Nat) : Int) > 1048560 := by omega
      have HA := hid ha
      clear s2 ha r12
      rw [← s3] at hs12
      clear s3
      generalize num bs 12 = p at *
      generalize num bs 0 = m0 at *
      generalize hn8 : num bs 8 = n8 at *
      have HN8 := hid hn8
      clear hn8
      have hm2 : ((m0 : Int) == 2003134068) = true := by rw [beq_iff_eq]; exact hm1
      have hm3 : ((m0 : Int) != 2003134068) = false := by rw [bne, hm2]; rfl
      clear hm1
      go_enter Tryd.func69, Tryd.ntmps69
      go_upto_region 1 with fail
      rw [← hW0]
      clear hW0
      go_wp2
      go_quiet (first | (go_at_call 68; exact hs12 _) | (go_at_call 80; first | with_reducible exact hq0 _ | with_reducible exact hq12 _ | with_reducible exact hq8 _))
      clear hs12 hq12 hq0
      go_upto_region 6 with (go_at_call 80; refine (hq8 nq).mono ?_; rintro e w1 ⟨rfl, k4, hw1⟩; have K01 : Old W0 w1 := (by rw [hw1]; exact (Keeps.refl _ _).drewN _); clear hw1 hq8)
      have K1 := k0.trans' K01
      have hb1 := K01.heap hb0 trivial
      clear f0 g0 g1 g2 g3 hb0 KQ K01 k0
      by_cases htorn : bs.length < 16 + n8
      · have j1 : (bs.length : Int) < 16 + (n8 : Int) := by omega
        have f0 : ∀ j, w1.frozen? ⟨w.heap.size, j, none⟩ = false := fun j => frozen_of_heap hb1
        have g0 : w1.cell? ⟨w.heap.size, 0, none⟩ = some (.int .i64 0) := cell_of_heap hb1
        have g1 : w1.cell? ⟨w.heap.size, 1, none⟩ = some (.int .i64 0) := cell_of_heap hb1
        have g2 : w1.cell? ⟨w.heap.size, 2, none⟩ = some (.slice none 0 0) := cell_of_heap hb1
        have g3 : w1.cell? ⟨w.heap.size, 3, none⟩ = some (.int .i64 0) := cell_of_heap hb1
        go_wp2
        rw [HR.out, if_pos htorn]
        exact read_end (r := .torn) (q := []) rfl rfl (set_four hb1 _ _ _ _) rfl (OwnR.nil _ _) (K1.trans (keeps_four _ _ _ _) fun k hk _ => by omega)
      · have j1 : ¬ (bs.length : Int) < 16 + (n8 : Int) := by omega
        have hq4 : Calls Tryd.prog 80 #[.slice (some ⟨b0, o0, none⟩) bs.length c, .int .i64 4] w1 fun e w' => e = .returned (.int .i64 (num bs 4 : Nat)) ∧ ∃ k, w1.drewN k = w' :=
          number_any w1 S _ bs.length c bs 4 (HA.out.keep (K1.old _)) rfl (by omega)
        have l4 := num_lt bs 4
        have HR2 : Hid (readA bs = scanL bs (num bs 4) (16 + n8) [] 16 ((16 + (n8 : Int)) == 16)) := hid (by
          rw [HR.out, if_neg htorn]
          congr 1
          rw [Bool.eq_iff_iff, beq_iff_eq, decide_eq_true_iff]
          omega)
        clear HR
        generalize num bs 4 = n4 at *
        go_upto_region 9 with (go_at_call 80; refine hq4.mono ?_; rintro e w2 ⟨rfl, k8, hw2⟩; have K12 : Old w1 w2 := (by rw [← hw2]; exact (Keeps.refl _ _).drewN _); clear hw2 hq4)
        obtain ⟨w3, hw3⟩ : ∃ W, W = w2.alloc (.cells #[.int .i64 3, .int .i64 (n4 : Int), .slice none 0 0, .int .i64 16] 112) := ⟨_, rfl⟩
        rw [← hw3]
        have K23 : Old w2 w3 := by rw [hw3]; exact (Keeps.refl _ _).alloc _
        have hb3 : w3.heap[w2.heap.size]? = some (.cells #[.int .i64 3, .int .i64 (n4 : Int), .slice none 0 0, .int .i64 16] 112 (0, 0)) := by rw [hw3]; exact heap_alloc_new _ _
        clear hw3
        obtain ⟨b3, hb3e⟩ : ∃ b3, b3 = w2.heap.size := ⟨_, rfl⟩
        rw [← hb3e] at hb3 ⊢
        have hlt3 : w.heap.size < b3 := by have := lt_of_heap hb1; have := K12.size; omega
        clear hb3e
        have K03 := K1.trans' (K12.trans' K23)
        have hb2 := (K12.trans' K23).heap hb1 trivial
        clear K1 K12 K23 hb1 j1 i12 i12' i3 SPO
        go_wp2
        go_loopw [5, 6, 7, 8, 9] (fun m _ _ _ _ wr => InRead w bs n4 (16 + n8) b3 m wr) (fun _ _ _ _ _ wr => bs.length - endOf b3 wr)
        case atStart => exact ⟨[], 16, _, .slice none 0 0, [], rfl, HR2.out, by omega, by simp, hb3, hb2, rfl, OwnR.nil _ _, K03⟩
        case round =>
          clear hb2 hb3 K03 HR2
          obtain ⟨recs, e, met, L, q, rfl, hsc, he, hcnt, hb3, hb2, hq, ho, hold⟩ := hrel
          have HSC := hid hsc
          clear hsc
          have g1 : wr.cell? ⟨b3, 1, none⟩ = some (.int .i64 (n4 : Int)) := cell_of_heap hb3
          have g3 : wr.cell? ⟨b3, 3, none⟩ = some (.int .i64 (e : Int)) := cell_of_heap hb3
          have hqn : q.length = recs.length := by rw [← hq]; simp
          obtain ⟨AL, cL, hL, hcL, _⟩ := own_slice ho.row
          rw [hqn] at hL hcL
          subst hL
          have g2 : wr.cell? ⟨b3, 2, none⟩ = some (.slice AL recs.length cL) := cell_of_heap hb3
          have b12 : IntKind.i64.wrap ((e : Int) + 12) = (e : Int) + 12 := by rw [IntKind.wrap_i64]; omega
          by_cases hlt : e + 12 ≤ bs.length
          · have j1 : (e : Int) + 12 ≤ (bs.length : Int) := by omega
            have b4 : IntKind.i64.wrap ((e : Int) + 4) = (e : Int) + 4 := by rw [IntKind.wrap_i64]; omega
            have b8 : IntKind.i64.wrap ((e : Int) + 8) = (e : Int) + 8 := by rw [IntKind.wrap_i64]; omega
            have hqa : Calls Tryd.prog 80 #[.slice (some ⟨b0, o0, none⟩) bs.length c, .int .i64 (e : Int)] wr fun e' w' => e' = .returned (.int .i64 (num bs e : Nat)) ∧ ∃ k, wr.drewN k = w' :=
              number_any wr S _ bs.length c bs e (HA.out.keep (hold.old _)) rfl (by omega)
            have hqz : ∀ (a : Nat) (z : Int), z = a → a + 4 ≤ bs.length → ∀ W, Old w W → Calls Tryd.prog 80 #[.slice (some ⟨b0, o0, none⟩) bs.length c, .int .i64 z] W fun e' w' => e' = .returned (.int .i64 (num bs a : Nat)) ∧ Old W w' := fun a z hz h4 W hW => by
              rw [hz]
              refine (number_any W S _ bs.length c bs a (HA.out.keep (hW.old _)) rfl h4).mono ?_
              rintro e' w' ⟨rfl, k, rfl⟩
              exact ⟨rfl, (Keeps.refl _ _).drewN _⟩
            have HQ8 := hid (hqz (e + 8) ((e : Int) + 8) (by omega) (by omega))
            have HQ4 := hid (hqz (e + 4) ((e : Int) + 4) (by omega) (by omega))
            clear hqz
            have hse : sealN n4 recs.length (num bs e) (num bs (e + 4)) = crc (four n4 ++ four recs.length ++ (bs.drop e).take 8) := by
              rw [eight_num bs e (by omega)]
              rfl
            have hun : scanL bs n4 (16 + n8) recs e met = if num bs (e + 8) ≠ sealN n4 recs.length (num bs e) (num bs (e + 4)) ∨ 65536 < num bs e then .spoilt
                else if bs.length < e + 12 + num bs e then (if met then ⟨3, n4, recs, e⟩ else .spoilt)
                else if crc ((bs.drop (e + 12)).take (num bs e)) ≠ num bs (e + 4) then .spoilt
                else scanL bs n4 (16 + n8) (recs ++ [(bs.drop (e + 12)).take (num bs e)]) (e + 12 + num bs e) (met || (e + 12 + num bs e == 16 + n8)) := by
              rw [scanL, if_pos hlt]
            rw [hse] at hun
            have HUN := hid hun
            clear hun hse
            have ln := num_lt bs e
            generalize num bs e = nn at *
            generalize num bs (e + 4) = ss at *
            generalize num bs (e + 8) = x8 at *
            have hql32 : recs.length < 4294967296 := by omega
            obtain ⟨mx, hmx⟩ : ∃ mx, mx = four n4 ++ four recs.length ++ (bs.drop e).take 8 := ⟨_, rfl⟩
            rw [← hmx] at HUN
            have hml : mx.length = 16 := by rw [hmx]; simp; omega
            go_upto_region 13 with (go_at_call 80; refine hqa.mono ?_; rintro e' w4 ⟨rfl, k, hw4⟩; have K34 : Old wr w4 := (by rw [← hw4]; exact (Keeps.refl _ _).drewN _); clear hw4 hqa)
            go_cut [8] (fun v wx => ∃ A8 c8, v = .slice A8 16 c8 ∧ Bts (fun k => wr.heap.size ≤ k) wx A8 mx ∧ Old wr wx)
            case first =>
              have q1 := (K34.cell (lt_of_cell g1) trivial).trans g1
              have q2 := (K34.cell (lt_of_cell g2) trivial).trans g2
              have hce : ¬ c = e := by omega
              have j2 : (0 : Int) ≤ (e : Int) := by omega
              have j3 : (e : Int) ≤ (e : Int) + 8 := by omega
              have j4 : (e : Int) + 8 ≤ (c : Int) := by omega
              have j5 : ((e : Int) + 8).toNat = e + 8 := by omega
              have j6 : e ≤ e + 8 := by omega
              have j7 : e + 8 ≤ c := by omega
              have j8 : e + 8 - e = 8 := by omega
              have hb8 : ∀ W, Old w W → Bts S W (some ⟨b0, o0 + e, none⟩) ((bs.drop e).take 8) := fun W hW => (HA.out.keep (hW.old _)).part (by omega) fun h0 b o he => by injection he with he; injection he with h1 h2 _; rw [← h1, ← h2]
              have HB8 := hid hb8
              have HL16 := hid hml
              have HMX := hid hmx
              clear hb8 hml
              have hmin : min 8 (bs.length - e) = 8 := by omega
              refine wp_region_planF (fun w' => w'.cell? ⟨b3, 1, none⟩ = some (.int .i64 (n4 : Int)) ∧ w'.cell? ⟨b3, 2, none⟩ = some (.slice AL recs.length cL)) 15
                [(0, none), (1, none), (3, none), (4, none), (5, none), (8, none), (9, none), (10, none), (11, none), (12, none), (2, some 2), (6, some 6), (7, some 7), (13, some 13), (14, none)] (by kernel_rfl) (by kernel_rfl) ⟨q1, q2⟩ ?_
              iterate 10 (refine planF_take (v := ?_) (by rfl) (by rfl) (fun w' hS => ?_) ?_; rotate_left 1; (obtain ⟨s0, s1⟩ := hS; go_simp <;> (try rw [if_pos (by omega)]) <;> (try with_reducible rfl)); (simp only [Act.put, List.setIfInBounds_toArray, List.set_cons_zero, List.set_cons_succ]))
              subst hmx
              refine planF_loud (by rfl) (loudly_of (by rfl) (fun K hK => ?_))
              go_wp2_with (go_at_call 67; refine (four_any w4.drew n4 l4).mono ?_)
              rintro e' w6 ⟨vg, rfl, hg, k6⟩
              obtain ⟨Ag, cg, rfl, _, _⟩ := hg.slice
              replace k6 := k6.ofDrew
              refine hK _ _ ⟨(k6.cell (lt_of_cell q1) trivial).trans q1, (k6.cell (lt_of_cell q2) trivial).trans q2⟩ ?_
              clear hK K
              refine planF_loud (by rfl) (loudly_of (by rfl) (fun K hK => ?_))
              go_wp2_with (go_at_call 67; refine (four_any w6 recs.length hql32).mono ?_)
              rintro e' w7 ⟨vc, rfl, hc, k7⟩
              obtain ⟨Ac, cc, rfl, _, _⟩ := hc.slice
              have k47 := k6.trans' k7
              refine hK _ _ ⟨(k47.cell (lt_of_cell q1) trivial).trans q1, (k47.cell (lt_of_cell q2) trivial).trans q2⟩ ?_
              clear hK K
              have bg := hg.bts.keep (k7.old _)
              have bc := hc.bts
              refine planF_loud (by rfl) (loudly_of (by rfl) (fun K hK => ?_))
              go_wp2_with (go_at_call 59; refine (join_any w7 _ _ _ _ _ _ _ _ _ _ bg bc rfl rfl (by simp)).mono ?_)
              rintro e' w8 ⟨vj, rfl, hj, k8⟩
              obtain ⟨Aj, cj, rfl, _, _⟩ := hj.slice
              have k48 := k47.trans' k8
              refine hK _ _ ⟨(k48.cell (lt_of_cell q1) trivial).trans q1, (k48.cell (lt_of_cell q2) trivial).trans q2⟩ ?_
              clear hK K
              refine planF_loud (by rfl) (loudly_of (by rfl) (fun K hK => ?_))
              go_wp2_with (go_at_call 59; refine (join_any w8 _ _ _ _ _ _ _ _ _ _ hj.bts (HB8.out w8 (hold.trans' (K34.trans' k48))) rfl (by simp; omega) (by simp; omega)).mono ?_)
              rintro e' w9 ⟨vm, rfl, hm9, k9⟩
              obtain ⟨Am, cm, rfl, _, _⟩ := hm9.slice
              have k49 := k48.trans' k9
              refine hK _ _ ⟨(k49.cell (lt_of_cell q1) trivial).trans q1, (k49.cell (lt_of_cell q2) trivial).trans q2⟩ ?_
              clear hK K
              (refine planF_take (v := ?_) (by rfl) (by rfl) (fun w' hS => ?_) ?_; rotate_left 1; (go_simp <;> (try with_reducible rfl)); (simp only [Act.put, List.setIfInBounds_toArray, List.set_cons_zero, List.set_cons_succ]))
              refine planF_tail (by rfl) ?_
              go_wp2
              refine NoPanic.normal ?_
              go_wp2
              go_meet
              exact ⟨Am, cm, rfl, hm9.bts.mono fun k _ h => by have h' : w8.heap.size ≤ k := h; have := k48.size; have := K34.size; show wr.heap.size ≤ k; omega, K34.trans' k49⟩
            case rest =>
            obtain ⟨A8, c8, rfl, hb8, K5⟩ := hcut
            clear K34
            have hsp : ∀ W, W.heap[w.heap.size]? = some (.cells #[.int .i64 1, .int .i64 0, .slice none 0 0, .int .i64 0] 112 (0, 0)) → Old w W → ∀ a : Act, a.tmps[2]? = some (.pointer (some ⟨w.heap.size, 0, none⟩)) → a.defers = [] → readA bs = .spoilt → bodyPost Tryd.prog Tryd.f69 (PostRead w (readA bs)) .ret a W := fun W h hk a h1 h2 he => by
              rw [he]
              exact read_end (q := []) h1 h2 h rfl (OwnR.nil _ _) hk
            have HSP := hid hsp
            clear hsp
            have hc8 := (crc_any wc _ A8 16 c8 mx hb8 hml.symm)
            have lx := crc_lt mx
            have HML := hid hml
            clear hml hmx
            go_wp2_with fail
            refine (HQ8.out wc (hold.trans' K5)).mono ?_
            rintro e' w6 ⟨rfl, K56⟩
            have K6 := K5.trans' K56
            have hc6 := crc_any w6 _ A8 16 c8 mx (hb8.keep (K56.old _)) HML.out.symm
            clear hc8 HQ8
            go_wp2_with fail
            refine hc6.mono ?_
            rintro e' w7 ⟨rfl, rfl⟩
            clear hc6
            generalize crc mx = xs at *
            by_cases hbad : x8 ≠ xs ∨ 65536 < nn
            · have HRS : Hid (readA bs = .spoilt) := hid (by rw [HSC.out, HUN.out, if_pos hbad])
              by_cases hx : x8 = xs
              · subst hx
                have hgt : (nn : Int) > 65536 := by rcases hbad with h | h <;> omega
                clear hbad
                have hb2' := K6.heap hb2 trivial
                have f0' : ∀ j, w6.frozen? ⟨w.heap.size, j, none⟩ = false := fun j => frozen_of_heap hb2'
                have p0 : w6.cell? ⟨w.heap.size, 0, none⟩ = some (.int .i64 0) := cell_of_heap hb2'
                have p1 : w6.cell? ⟨w.heap.size, 1, none⟩ = some (.int .i64 0) := cell_of_heap hb2'
                have p2 : w6.cell? ⟨w.heap.size, 2, none⟩ = some (.slice none 0 0) := cell_of_heap hb2'
                have p3 : w6.cell? ⟨w.heap.size, 3, none⟩ = some (.int .i64 0) := cell_of_heap hb2'
                go_wp2
                exact HSP.out _ (set_four hb2' _ _ _ _) ((hold.trans' K6).trans (keeps_four _ _ _ _) fun k hk _ => by omega) _ rfl rfl HRS.out
              · have hx1 : ((x8 : Int) == (xs : Int)) = false := by rw [beq_eq_false_iff_ne]; omega
                have hx2 : ((x8 : Int) != (xs : Int)) = true := by rw [bne, hx1]; rfl
                clear hbad hx
                have hb2' := K6.heap hb2 trivial
                have f0' : ∀ j, w6.frozen? ⟨w.heap.size, j, none⟩ = false := fun j => frozen_of_heap hb2'
                have p0 : w6.cell? ⟨w.heap.size, 0, none⟩ = some (.int .i64 0) := cell_of_heap hb2'
                have p1 : w6.cell? ⟨w.heap.size, 1, none⟩ = some (.int .i64 0) := cell_of_heap hb2'
                have p2 : w6.cell? ⟨w.heap.size, 2, none⟩ = some (.slice none 0 0) := cell_of_heap hb2'
                have p3 : w6.cell? ⟨w.heap.size, 3, none⟩ = some (.int .i64 0) := cell_of_heap hb2'
                go_wp2
                exact HSP.out _ (set_four hb2' _ _ _ _) ((hold.trans' K6).trans (keeps_four _ _ _ _) fun k hk _ => by omega) _ rfl rfl HRS.out
            · simp only [not_or, Decidable.not_not] at hbad
              obtain ⟨rfl, hnn⟩ := hbad
              have hgt : ¬ (nn : Int) > 65536 := by omega
              have b13 : IntKind.i64.wrap ((e : Int) + 12 + (nn : Int)) = (e : Int) + 12 + (nn : Int) := by rw [IntKind.wrap_i64]; omega
              by_cases hbrk : bs.length < e + 12 + nn
              · have j2 : (e : Int) + 12 + (nn : Int) > (bs.length : Int) := by omega
                have HRD : Hid (readA bs = if met then ⟨3, n4, recs, e⟩ else .spoilt) := hid (by rw [HSC.out, HUN.out, if_neg (by simp only [not_or, Decidable.not_not]; exact ⟨trivial, hnn⟩), if_pos hbrk])
                have hb2' := K6.heap hb2 trivial
                have hb3' := K6.heap hb3 trivial
                have f0' : ∀ j, w6.frozen? ⟨w.heap.size, j, none⟩ = false := fun j => frozen_of_heap hb2'
                have p0 : w6.cell? ⟨w.heap.size, 0, none⟩ = some (.int .i64 0) := cell_of_heap hb2'
                have p1 : w6.cell? ⟨w.heap.size, 1, none⟩ = some (.int .i64 0) := cell_of_heap hb2'
                have p2 : w6.cell? ⟨w.heap.size, 2, none⟩ = some (.slice none 0 0) := cell_of_heap hb2'
                have p3 : w6.cell? ⟨w.heap.size, 3, none⟩ = some (.int .i64 0) := cell_of_heap hb2'
                have r0 : w6.cell? ⟨b3, 0, none⟩ = some (.int .i64 3) := cell_of_heap hb3'
                have r1 : w6.cell? ⟨b3, 1, none⟩ = some (.int .i64 (n4 : Int)) := cell_of_heap hb3'
                have r2 : w6.cell? ⟨b3, 2, none⟩ = some (.slice AL recs.length cL) := cell_of_heap hb3'
                have r3 : w6.cell? ⟨b3, 3, none⟩ = some (.int .i64 (e : Int)) := cell_of_heap hb3'
                cases met
                · go_wp2
                  rw [HRD.out]
                  exact read_end (r := .spoilt) (q := []) rfl rfl (set_four hb2' _ _ _ _) rfl (OwnR.nil _ _) ((hold.trans' K6).trans (keeps_four _ _ _ _) fun k hk _ => by omega)
                · go_wp2
                  rw [HRD.out]
                  exact read_end (r := ⟨3, n4, recs, e⟩) (q := q) rfl rfl (set_four hb2' _ _ _ _) hq ((((ho.keep (K6.old _))).keep ((keeps_four _ _ _ _).mono fun k _ h => by have h' : b3 < k := h; show k ≠ w.heap.size; omega)).mono fun k _ h => by have h' : b3 < k := h; show w.heap.size ≤ k; omega) ((hold.trans' K6).trans (keeps_four _ _ _ _) fun k hk _ => by omega)
              · have j2 : ¬ (e : Int) + 12 + (nn : Int) > (bs.length : Int) := by omega
                obtain ⟨rec, hrec⟩ : ∃ rec, rec = (bs.drop (e + 12)).take nn := ⟨_, rfl⟩
                have hrl : rec.length = nn := by rw [hrec]; simp; omega
                have K06 := hold.trans' K6
                have HRL := hid hrl
                have HREC := hid hrec
                clear hrl hrec
                have j5 : (0 : Int) ≤ (e : Int) + 12 := by omega
                have j6 : (e : Int) + 12 ≤ (e : Int) + 12 + (nn : Int) := by omega
                have j7 : (e : Int) + 12 + (nn : Int) ≤ (c : Int) := by omega
                have j8 : ((e : Int) + 12).toNat = e + 12 := by omega
                have j9 : ((e : Int) + 12 + (nn : Int)).toNat = e + 12 + nn := by omega
                have j10 : e + 12 ≤ e + 12 + nn := by omega
                have j11 : e + 12 + nn ≤ c := by omega
                have j12 : e + 12 + nn - (e + 12) = nn := by omega
                go_upto_region 17 with fail
                go_cut [9] (fun v wx => ∃ A9 c9, v = .slice A9 nn c9 ∧ OwnB (fun k => w6.heap.size ≤ k) wx (.slice A9 nn c9) rec ∧ Old w6 wx)
                case first =>
                  have hbr : ∀ X cc, (0 < nn → X = some ⟨b0, o0 + (e + 12), none⟩) → Calls Tryd.prog 59 #[.slice none 0 0, .slice X nn cc] w6 (PostOwn w6 rec) := fun X cc hX => by
                    have hb : Bts S w6 X rec := by
                      rw [HREC.out]
                      exact (HA.out.keep (K06.old _)).part (by omega) fun h0 b o he => by injection he with he; injection he with h1 h2 _; rw [hX h0, ← h1, ← h2]
                    have := join_any w6 S S none X 0 nn 0 cc [] rec (Bts.nil _ _ _) hb rfl HRL.out.symm (by have := HRL.out; simp; omega)
                    exact this
                  have HBR := hid hbr
                  clear hbr
                  (go_wp2_with fail) <;> (
                    refine (HBR.out _ _ ?_).mono ?_
                    · intro h0
                      first
                      | rfl
                      | (exfalso; omega)
                    rintro e' w8 ⟨v, rfl, hv, k8⟩
                    try (have hce : c = e + 12 := by assumption
                         subst hce)
                    obtain ⟨A9, c9, rfl, _, _⟩ := hv.slice
                    rw [HRL.out] at hv
                    simp only [HRL.out]
                    go_wp2
                    go_meet
                    exact ⟨A9, c9, rfl, hv, k8⟩)
                case rest =>
                obtain ⟨A9, c9, rfl, hv9, K69⟩ := hcut
                have K9 := K6.trans' K69
                go_wp2_with fail
                refine (HQ4.out wc (hold.trans' K9)).mono ?_
                rintro e' w10 ⟨rfl, K910⟩
                have K10 := K9.trans' K910
                have hv10 := hv9.keep (K910.old _)
                have hcr : Calls Tryd.prog 68 #[.slice A9 nn c9] w10 fun e' w' => e' = .returned (.int .i64 (crc rec : Nat)) ∧ w10 = w' := by
                  have hb : Bts _ w10 A9 rec := OwnB.bts (by rw [HRL.out]; exact hv10)
                  exact crc_any w10 _ A9 nn c9 rec hb HRL.out.symm
                clear HQ4
                go_wp2_with fail
                refine hcr.mono ?_
                rintro e' w11 ⟨rfl, rfl⟩
                clear hcr
                by_cases hcrc : crc rec = ss
                · have HG : Hid (readA bs = scanL bs n4 (16 + n8) (recs ++ [rec]) (e + 12 + nn) (met || (e + 12 + nn == 16 + n8))) := hid (by
                    rw [HSC.out, HUN.out, if_neg (by simp only [not_or, Decidable.not_not]; exact ⟨trivial, hnn⟩), if_neg hbrk, ← HREC.out, if_neg (by simp only [Decidable.not_not]; exact hcrc)])
                  rw [hcrc]
                  clear hcrc
                  have hb3' := K10.heap hb3 trivial
                  have hb2' := K10.heap hb2 trivial
                  have r2 : w10.cell? ⟨b3, 2, none⟩ = some (.slice AL recs.length cL) := cell_of_heap hb3'
                  have how := ho.keep (K10.old _)
                  have ho7 := how.keep ((show Old w10 (w10.alloc (.cells #[.slice A9 nn c9] 22)) from (Keeps.refl _ _).alloc _).old _)
                  have hrow7 := ho7.row
                  have hltL : ∀ k, (Value.slice AL recs.length cL).ownBlock = some k → b3 < k := how.foot
                  have hlb3 := lt_of_heap hb3'
                  have hs6 : w6.heap.size ≤ w10.heap.size := (K69.trans' K910).size
                  have hs36 : b3 < w6.heap.size := by have := lt_of_heap hb3; have := K6.size; omega
                  have ap : ∀ v2 w12, w12.ownsRow 0 22 1 v2 (q.length + 1) (q.map (·.2) ++ [.slice A9 nn c9]) → (w10.alloc (.cells #[.slice A9 nn c9] 22)).grownBy w12 (Value.slice AL recs.length cL).ownBlock → (v2.ownBlock = (Value.slice AL recs.length cL).ownBlock ∨ v2.ownBlock = some (w10.alloc (.cells #[.slice A9 nn c9] 22)).heap.size) →
                      ∃ A12 c12, v2 = .slice A12 (recs.length + 1) c12 ∧ OwnR (fun k => b3 < k) w12 v2 (q ++ [(rec, .slice A9 nn c9)]) ∧ Keeps (fun k => k ≤ b3) w10 w12 := fun v2 w12 hown hgrow hat => by
                    have K78 : Keeps (fun k => (Value.slice AL recs.length cL).ownBlock ≠ some k) (w10.alloc (.cells #[.slice A9 nn c9] 22)) w12 := (Keeps.refl _ _).grown hgrow (fun k _ h hn => hn h)
                    have K58 : Keeps (fun k => k ≤ b3) w10 w12 := ((Keeps.refl _ _).alloc _).trans (K78.mono fun k _ h hk => by have h' : k ≤ b3 := h; have := hltL k hk; omega) fun _ _ h => h
                    obtain ⟨A12, c12, hv2, _, _⟩ := own_slice hown
                    rw [hqn] at hv2
                    refine ⟨A12, c12, hv2, ?_, K58⟩
                    refine (ho7.push (x := (rec, .slice A9 nn c9)) K78 (hv10.keep (((Keeps.refl _ _).alloc _).old _)) hown fun y hy k hk hv' => by
                      have h1 := own_lt (ho.own y hy).row hk
                      have h2 : w6.heap.size ≤ k := hv10.foot k hv'
                      have := K6.size
                      omega).mono fun k hk h => ?_
                    rcases h with h | h | h
                    · exact h
                    · have h' : w6.heap.size ≤ k := h
                      omega
                    · rcases hat with e8 | e8
                      · rw [e8] at h; exact hltL k h
                      · rw [e8] at h; injection h with h; simp at h; omega
                  have fin : ∀ (m : Bool) A12 c12 w12, OwnR (fun k => b3 < k) w12 (.slice A12 (recs.length + 1) c12) (q ++ [(rec, .slice A9 nn c9)]) → Keeps (fun k => k ≤ b3) w10 w12 → m = (met || (e + 12 + nn == 16 + n8)) →
                      InRead w bs n4 (16 + n8) b3 (.bool m) ((w12.setCell ⟨b3, 2, none⟩ (.slice A12 (recs.length + 1) c12)).setCell ⟨b3, 3, none⟩ (.int .i64 ((e : Int) + 12 + (nn : Int)))) ∧
                      bs.length - endOf b3 ((w12.setCell ⟨b3, 2, none⟩ (.slice A12 (recs.length + 1) c12)).setCell ⟨b3, 3, none⟩ (.int .i64 ((e : Int) + 12 + (nn : Int)))) < bs.length - endOf b3 wr := fun m A12 c12 w12 hO hK hm => by
                    rw [show (e : Int) + 12 + (nn : Int) = ((e + 12 + nn : Nat) : Int) by omega]
                    have hb38 := hK.heap hb3' (Nat.le_refl _)
                    have hb28 := hK.heap hb2' (show w.heap.size ≤ b3 by omega)
                    have KS : Keeps (· ≠ b3) w12 ((w12.setCell ⟨b3, 2, none⟩ (.slice A12 (recs.length + 1) c12)).setCell ⟨b3, 3, none⟩ (.int .i64 ((e + 12 + nn : Nat) : Int))) := ((Keeps.refl _ _).setCell (fun _ h => h rfl) _).setCell (fun _ h => h rfl) _
                    have hbf : ((w12.setCell ⟨b3, 2, none⟩ (.slice A12 (recs.length + 1) c12)).setCell ⟨b3, 3, none⟩ (.int .i64 ((e + 12 + nn : Nat) : Int))).heap[b3]? = some (.cells #[.int .i64 3, .int .i64 (n4 : Int), .slice A12 (recs.length + 1) c12, .int .i64 ((e + 12 + nn : Nat) : Int)] 112 (0, 0)) := by
                      rw [heap_setCell (heap_setCell hb38 _)]
                      rfl
                    refine ⟨⟨recs ++ [rec], e + 12 + nn, m, .slice A12 (recs.length + 1) c12, q ++ [(rec, .slice A9 nn c9)], rfl, by rw [hm]; exact HG.out, by omega, by simp; omega, hbf, KS.heap hb28 (by omega), by rw [List.map_append, hq]; rfl, hO.keep (KS.mono fun k _ h => by have h' : b3 < k := h; show k ≠ b3; omega), ?_⟩, ?_⟩
                    · exact ((hold.trans' K10).trans hK fun k hk _ => by show k ≤ b3; omega).trans KS fun k hk _ => by show k ≠ b3; omega
                    · rw [endOf_eq (cell_of_heap hbf), endOf_eq g3]
                      omega
                  have FIN := hid fin
                  have AP := hid ap
                  clear fin ap
                  have H3 := hid hb3'
                  go_upto_region 21 with (at_builtin; refine wpList_append_ex _ (by rfl) _ _ 35 22 (by rfl) Tryd.underlying35 info22 (by rfl) (by omega) (by rfl) hrow7 (some ⟨w10.heap.size, 0, none⟩) 1 1 [.slice A9 nn c9] (by rfl) (by rfl) (fun _ => ⟨_, rfl, World.news_of_block (heap_alloc_new _ _)⟩) (one_one (by rfl)) (by omega) (by unfold maxLen; omega) ?_; intro v2 w12 hown12 hgrow12 hat12; obtain ⟨A12, c12, hv12, hO12, K12⟩ := AP.out v2 w12 hown12 hgrow12 hat12; subst hv12; have hb12 := K12.heap H3.out (Nat.le_refl _); have z2 : w12.cell? ⟨b3, 2, none⟩ = some (.slice AL recs.length cL) := cell_of_heap hb12; have z3 : w12.cell? ⟨b3, 3, none⟩ = some (.int .i64 (e : Int)) := cell_of_heap hb12; have zf : ∀ j, w12.frozen? ⟨b3, j, none⟩ = false := (fun j => frozen_of_heap hb12))
                  clear hown12 hgrow12 hat12 hrow7 ho7 how hb12
                  by_cases hme : e + 12 + nn = 16 + n8
                  · have y1 : ((e : Int) + 12 + (nn : Int) == 16 + (n8 : Int)) = true := by rw [beq_iff_eq]; omega
                    go_wp2
                    exact FIN.out _ _ _ _ hO12 K12 (by simp [hme])
                  · have y1 : ((e : Int) + 12 + (nn : Int) == 16 + (n8 : Int)) = false := by rw [beq_eq_false_iff_ne]; omega
                    have y2 : ¬ ((e : Int) + 12 + (nn : Int) = 16 + (n8 : Int)) := by omega
                    go_wp2
                    exact FIN.out _ _ _ _ hO12 K12 (by simp [hme])
                · have HRS : Hid (readA bs = .spoilt) := hid (by
                    rw [HSC.out, HUN.out, if_neg (by simp only [not_or, Decidable.not_not]; exact ⟨trivial, hnn⟩), if_neg hbrk, ← HREC.out, if_pos hcrc])
                  generalize crc rec = kc at *
                  have hx2 : ((ss : Int) == (kc : Int)) = false := by rw [beq_eq_false_iff_ne]; omega
                  have hx3 : ((ss : Int) != (kc : Int)) = true := by rw [bne, hx2]; rfl
                  clear hcrc
                  have hb2' := K10.heap hb2 trivial
                  have f0' : ∀ j, w10.frozen? ⟨w.heap.size, j, none⟩ = false := fun j => frozen_of_heap hb2'
                  have p0 : w10.cell? ⟨w.heap.size, 0, none⟩ = some (.int .i64 0) := cell_of_heap hb2'
                  have p1 : w10.cell? ⟨w.heap.size, 1, none⟩ = some (.int .i64 0) := cell_of_heap hb2'
                  have p2 : w10.cell? ⟨w.heap.size, 2, none⟩ = some (.slice none 0 0) := cell_of_heap hb2'
                  have p3 : w10.cell? ⟨w.heap.size, 3, none⟩ = some (.int .i64 0) := cell_of_heap hb2'
                  go_wp2
                  exact HSP.out _ (set_four hb2' _ _ _ _) ((hold.trans' K10).trans (keeps_four _ _ _ _) fun k hk _ => by omega) _ rfl rfl HRS.out
          · have j1 : ¬ (e : Int) + 12 ≤ (bs.length : Int) := by omega
            have HRD : Hid (readA bs = if met then ⟨3, n4, recs, e⟩ else .spoilt) := hid (by rw [HSC.out, scanL, if_neg hlt])
            have hb2' := hb2
            have hb3' := hb3
            have f0' : ∀ j, wr.frozen? ⟨w.heap.size, j, none⟩ = false := fun j => frozen_of_heap hb2'
            have p0 : wr.cell? ⟨w.heap.size, 0, none⟩ = some (.int .i64 0) := cell_of_heap hb2'
            have p1 : wr.cell? ⟨w.heap.size, 1, none⟩ = some (.int .i64 0) := cell_of_heap hb2'
            have p2 : wr.cell? ⟨w.heap.size, 2, none⟩ = some (.slice none 0 0) := cell_of_heap hb2'
            have p3 : wr.cell? ⟨w.heap.size, 3, none⟩ = some (.int .i64 0) := cell_of_heap hb2'
            have r0 : wr.cell? ⟨b3, 0, none⟩ = some (.int .i64 3) := cell_of_heap hb3'
            have r1 : wr.cell? ⟨b3, 1, none⟩ = some (.int .i64 (n4 : Int)) := cell_of_heap hb3'
            have r2 : wr.cell? ⟨b3, 2, none⟩ = some (.slice AL recs.length cL) := cell_of_heap hb3'
            have r3 : wr.cell? ⟨b3, 3, none⟩ = some (.int .i64 (e : Int)) := cell_of_heap hb3'
            cases met
            · go_wp2
              rw [HRD.out]
              exact read_end (r := .spoilt) (q := []) rfl rfl (set_four hb2' _ _ _ _) rfl (OwnR.nil _ _) (hold.trans (keeps_four _ _ _ _) fun k hk _ => by omega)
            · go_wp2
              rw [HRD.out]
              exact read_end (r := ⟨3, n4, recs, e⟩) (q := q) rfl rfl (set_four hb2' _ _ _ _) hq (((ho).keep ((keeps_four _ _ _ _).mono fun k _ h => by have h' : b3 < k := h; show k ≠ w.heap.size; omega)).mono fun k _ h => by have h' : b3 < k := h; show w.heap.size ≤ k; omega) (hold.trans (keeps_four _ _ _ _) fun k hk _ => by omega)
end Go.Proofs.YtdpaaoeipconcaaDoor
