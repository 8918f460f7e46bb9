/- weftlaw12.JournalSerial: the newer generation is found wherever the counting stands. Conditions: the record can be read, the table lies. -/
import Derived.Test.YtdpaaoeipconcaaDoorJSerP
import Derived.Test.YtdpaaoeipconcaaDoorJPlays
namespace Go.Proofs.YtdpaaoeipconcaaDoor
open Go.RowKit

theorem bv_small (k : Nat) (h : k < 256) : bv (UInt8.ofNat k) = .int .u8 (k : Int) := by rw [bv_ofNat, Nat.mod_eq_of_lt h]

/-- One record of one byte, laid as the walk lays it. -/
theorem rcs_one {w W1 W2 : World} {b : UInt8} (h1 : W1 = w.alloc (.cells #[bv b] 5)) (h2 : W2 = W1.alloc (.cells #[.slice (some ⟨w.heap.size, 0, none⟩) 1 1] 22)) : Rcs (fun k => w.heap.size ≤ k) W2 (some ⟨w.heap.size + 1, 0, none⟩) [[b]] := by
  have k2 : Old W1 W2 := by rw [h2]; exact (Keeps.refl _ _).alloc _
  have hs : W1.heap.size = w.heap.size + 1 := by rw [h1]; simp
  have hb1 : W1.heap[w.heap.size]? = some (.cells (([b] : List UInt8).map bv).toArray 5 (0, 0)) := by rw [h1]; exact heap_alloc_new _ _
  have hb2 : W2.heap[w.heap.size + 1]? = some (.cells #[.slice (some ⟨w.heap.size, 0, none⟩) 1 1] 22 (0, 0)) := by rw [h2, ← hs]; exact heap_alloc_new _ _
  have hbt := (Bts.of_block (k2.heap hb1 trivial) (bs := [b]) (by simp)).mono (T := fun k => w.heap.size ≤ k) fun k _ hk => by have h' : k = w.heap.size := hk; omega
  exact ⟨by simp, fun _ => ⟨w.heap.size + 1, 0, rfl, by omega, fun i hi => by
    match i, hi with
    | 0, _ => exact ⟨_, _, cell_of_heap hb2, Nat.le_refl _, hbt⟩⟩⟩

/-- A record of one byte and another one. -/
theorem rcs_two {w W1 W2 : World} {b : UInt8} {S : Nat → Prop} {A : Option Addr} {c : Nat} {rec : List UInt8} (h1 : W1 = w.alloc (.cells #[bv b] 5)) (h2 : W2 = W1.alloc (.cells #[.slice (some ⟨w.heap.size, 0, none⟩) 1 1, .slice A rec.length c] 22)) (hr : Bts S w A rec) (hc : rec.length ≤ c) :
    Rcs (fun _ => True) W2 (some ⟨w.heap.size + 1, 0, none⟩) [[b], rec] := by
  have k1 : Old w W1 := by rw [h1]; exact (Keeps.refl _ _).alloc _
  have k2 : Old W1 W2 := by rw [h2]; exact (Keeps.refl _ _).alloc _
  have hs : W1.heap.size = w.heap.size + 1 := by rw [h1]; simp
  have hb1 : W1.heap[w.heap.size]? = some (.cells (([b] : List UInt8).map bv).toArray 5 (0, 0)) := by rw [h1]; exact heap_alloc_new _ _
  have hb2 : W2.heap[w.heap.size + 1]? = some (.cells #[.slice (some ⟨w.heap.size, 0, none⟩) 1 1, .slice A rec.length c] 22 (0, 0)) := by rw [h2, ← hs]; exact heap_alloc_new _ _
  have hbt := (Bts.of_block (k2.heap hb1 trivial) (bs := [b]) (by simp)).mono (T := fun _ => True) fun _ _ _ => trivial
  have hrt := (hr.keep ((k1.trans' k2).old _)).mono (T := fun _ => True) fun _ _ _ => trivial
  exact ⟨by simp, fun _ => ⟨w.heap.size + 1, 0, rfl, trivial, fun i hi => by
    match i, hi with
    | 0, _ => exact ⟨_, _, cell_of_heap hb2, Nat.le_refl _, hbt⟩
    | 1, _ => exact ⟨_, _, cell_of_heap hb2, hc, hrt⟩⟩⟩

/-- ahead of a round -/
def InSer (w : World) (gen : Nat) (rec : List UInt8) (bd k : Nat) (wr : World) : Prop :=
  ∃ (D : Dk) (vA vB : Value), wr.heap[bd]? = some (.cells #[vA, vB] 24 (0, 0)) ∧ OwnB (fun k => w.heap.size ≤ k) wr vA D.1 ∧ OwnB (fun k => w.heap.size ≤ k) wr vB D.2 ∧ Ser gen rec k D ∧ Old w wr

set_option maxRecDepth 10000 in
set_option maxHeartbeats 4000000 in
theorem serial_any (w : World) (S : Nat → Prop) (gen : Nat) (n : Int) (A : Option Addr) (m c : Nat) (rec : List UInt8) (hr : Bts S w A rec) (hm : m = rec.length) (hc : m ≤ c) (hg : gen < 4294967296) (hS : ∀ k, S k → k < w.heap.size) (hT : Tab w) :
    Calls Tryd.prog 15 #[.int .u32 (gen : Int), .int .i64 n, .slice A m c] w fun e w' => e = .returned (.bool true) ∧ Old w w' := by
  subst hm
  have hrl := hr.1
  have hpos := hT.pos
  go_enter Tryd.func15, Tryd.ntmps15
  go_wp2_with fail
  refine (first_any w hT).mono ?_
  rintro e w1 ⟨rfl, k1⟩
  have hT1 := hT.keep (k1.old (fun _ => True)) trivial
  by_cases hlong : 60000 < rec.length
  · have j1 : (rec.length : Int) > 60000 := by omega
    go_wp2_with fail
    refine (first_any w1 hT1).mono ?_
    rintro e w2 ⟨rfl, k2⟩
    go_wp2
    go_ret
    exact ⟨rfl, k1.trans' k2⟩
  · have j1 : ¬ (rec.length : Int) > 60000 := by omega
    have hl : rec.length ≤ 60000 := by omega
    go_upto_region 3 with fail
    go_cut [1, 25] (fun v p wx => wx = w1 ∧ ((∃ N : Nat, v = .int .i64 N ∧ N ≤ 9 ∧ p = .bool false) ∨ p = .bool true))
    case first =>
      by_cases h1 : n < 0
      · go_wp2
        go_meet
        exact ⟨rfl, .inr rfl⟩
      · obtain ⟨nn, rfl⟩ := Int.eq_ofNat_of_zero_le (show 0 ≤ n by omega)
        by_cases h2 : 9 < nn
        · have h3 : (nn : Int) > 9 := by omega
          go_wp2
          go_meet
          exact ⟨rfl, .inr rfl⟩
        · have h3 : ¬ (nn : Int) > 9 := by omega
          go_wp2
          go_meet
          exact ⟨rfl, .inl ⟨nn, rfl, by omega, rfl⟩⟩
    case rest =>
    obtain ⟨rfl, hN⟩ := hcut
    have hd := head_any wc gen 0 hg (by omega)
    rw [show ((0 : Nat) : Int) = 0 from rfl] at hd
    rcases hN with ⟨N, rfl, hN9, rfl⟩ | rfl
    · -- n as it came
      go_upto_region 5 with fail
      go_wp2_with fail
      refine hd.mono ?_
      rintro e w2 ⟨vh, rfl, hvh, k2⟩
      clear hd
      obtain ⟨Ah, ch, rfl, _, _⟩ := hvh.slice
      rw [headB_length]
      rw [headB_length] at hvh
      obtain ⟨W5, hW5⟩ : ∃ W, W = w2.alloc (.cells #[.slice Ah 16 ch, .slice none 0 0] 24) := ⟨_, rfl⟩
      have k5 : Old w2 W5 := by rw [hW5]; exact (Keeps.refl _ _).alloc _
      have hb5 : W5.heap[w2.heap.size]? = some (.cells #[.slice Ah 16 ch, .slice none 0 0] 24 (0, 0)) := by rw [hW5]; exact heap_alloc_new _ _
      have K5 := (k1.trans' k2).trans' k5
      have zz1 := k1.size
      have zz2 := k2.size
      have HS := hid (show InSer w gen rec w2.heap.size 0 W5 from ⟨(headB gen 0, []), _, _, hb5, (hvh.keep (k5.old _)).mono fun k _ h => (by have h' : wc.heap.size ≤ k := h; omega), OwnB.nil _ _, ser_start gen rec, K5⟩)
      go_upto_region 6 with fail
      rw [← hW5]
      clear hW5 hb5 hvh k5
      go_wp2
      go_loopw [8, 9, 10, 11] (fun v _ _ _ wr => ∃ k : Nat, v = .int .i64 k ∧ k ≤ N + 1 ∧ Hid (InSer w gen rec w2.heap.size k wr)) (fun v _ _ _ _ => N + 1 - (intOf v).toNat)
      case atStart => exact ⟨0, rfl, by omega, HS⟩
      case round =>
        clear HS K5
        obtain ⟨k, rfl, hk, hin⟩ := hrel
        obtain ⟨⟨xs, ys⟩, vA, vB, hbd, hA, hB, hser, hold⟩ := hin.out
        simp only at hA hB
        clear hin
        by_cases hlt : k ≤ N
        · obtain ⟨j, j1, j2, hop, hrw, hap, hw1, hw2, hser2⟩ := ser_round hg hl hser
          obtain ⟨A2, ca, rfl, hca, _⟩ := hA.slice
          obtain ⟨B2, cb, rfl, hcb, _⟩ := hB.slice
          have hws := (open_down hop).2
          have hlo := lopen_any wr _ A2 B2 _ _ ca cb xs ys hA.bts hB.bts rfl rfl hca hcb (hT.keep (hold.old (fun _ => True)) trivial)
          rw [hop] at hlo
          have HSR := hid (And.intro hrw (And.intro hap hser2))
          clear hop hrw hap hser2 hser
          have p0 : wr.cell? ⟨w2.heap.size, 0, none⟩ = some (.slice A2 xs.length ca) := cell_of_heap hbd
          have p1 : wr.cell? ⟨w2.heap.size, 1, none⟩ = some (.slice B2 ys.length cb) := cell_of_heap hbd
          have zbd := lt_of_heap hbd
          have hzo := hold.size
          have i2 : (k : Int) ≤ (N : Int) := by omega
          go_wp2_with fail
          refine hlo.mono ?_
          rintro e w6 ⟨F, g, vA3, vB3, vP3, q3, L3, ql3, rfl, hL, hF, hql, hoL, k6⟩
          clear hlo p0 p1
          have hlen3 : ql3.length = (serR rec k).length := by rw [← hql]; simp
          obtain ⟨AL, cL, hLs, _, hRL⟩ := hoL.rcs (by rw [hlen3]; unfold serR; split <;> simp)
          rw [hql] at hRL
          rw [hlen3] at hLs
          subst hLs
          clear hql hlen3 hoL
          have K6 := hold.trans' k6
          have z6 := k6.size
          go_upto_region 12 with fail
          go_cut [8, 9, 58] (fun v8 v9 v wx => v8 = .int .i64 k ∧ v9 = .pointer (some ⟨g, 0, none⟩) ∧ v = .bool false ∧ Old w6 wx)
          case first =>
            by_cases hk0 : k = 0
            · have hk1 : ¬ 0 < k := by omega
              go_wp2
              go_meet
              exact ⟨by first | rfl | simp, rfl, rfl, Keeps.refl _ _⟩
            · have hk1 : 0 < k := by omega
              have bk : IntKind.u8.wrap (k : Int) = (k : Int) := by rw [IntKind.wrap_u8]; omega
              obtain ⟨W6, hW6⟩ : ∃ W, W = w6.alloc (.cells #[.int .u8 (k : Int)] 5) := ⟨_, rfl⟩
              obtain ⟨W7, hW7⟩ : ∃ W, W = W6.alloc (.cells #[.slice (some ⟨w6.heap.size, 0, none⟩) 1 1, .slice A rec.length c] 22) := ⟨_, rfl⟩
              have k7 : Old w6 W7 := by rw [hW7, hW6]; exact ((Keeps.refl _ _).alloc _).alloc _
              have hrc := rcs_two (b := UInt8.ofNat k) (by rw [hW6, bv_small k (by omega)]) hW7 (hr.keep (K6.old _)) hc
              have hls := lists_any W7 _ _ AL (some ⟨w6.heap.size + 1, 0, none⟩) cL 2 (serR rec k) [[UInt8.ofNat k], rec] (hRL.keep (k7.old _)) hrc
              rw [decide_eq_true (show serR rec k = [[UInt8.ofNat k], rec] by rw [serR, if_neg hk0])] at hls
              simp only [List.length_cons, List.length_nil] at hls
              have hls' : Calls Tryd.prog 33 #[.slice AL (serR rec k).length cL, .slice (some ⟨w6.heap.size + 1, 0, none⟩) 2 2] W7 (PostSame W7 true) := hls
              clear hls hrc hk0
              go_wp2_with fail
              rw [hW6] at hW7
              rw [← hW7]
              refine hls'.mono ?_
              rintro e w8 ⟨rfl, nd, hw8⟩
              have k8 : Old W7 w8 := by rw [← hw8]; exact (Keeps.refl _ _).drewN _
              clear hw8 hls' hW7 hW6
              go_wp2
              go_meet
              exact ⟨rfl, rfl, rfl, k7.trans' k8⟩
          case rest =>
          obtain ⟨rfl, rfl, rfl, kc⟩ := hcut
          have Kc := K6.trans' kc
          have zc := kc.size
          have b1 : IntKind.i64.wrap ((k : Int) + 1) = ((k + 1 : Nat) : Int) := by rw [IntKind.wrap_i64]; omega
          have bk : IntKind.u8.wrap ((k + 1 : Nat) : Int) = ((k + 1 : Nat) : Int) := by rw [IntKind.wrap_u8]; omega
          obtain ⟨kn, hkn⟩ : ∃ kn, kn = k + 1 := ⟨_, rfl⟩
          rw [← hkn] at b1 bk HSR
          obtain ⟨W8, hW8⟩ : ∃ W, W = wc.alloc (.cells #[.int .u8 (kn : Int)] 5) := ⟨_, rfl⟩
          obtain ⟨W9, hW9⟩ : ∃ W, W = W8.alloc (.cells #[.slice (some ⟨wc.heap.size, 0, none⟩) 1 1] 22) := ⟨_, rfl⟩
          have k9 : Old wc W9 := by rw [hW9, hW8]; exact ((Keeps.refl _ _).alloc _).alloc _
          have hrc := rcs_one (b := UInt8.ofNat kn) (by rw [hW8, bv_small kn (by omega)]) hW9
          have hLc := (hL.keep (kc.old _)).keep (k9.old _)
          have hFlt := hL.lt
          have hre := rewrite_any W9 F _ g vA3 vB3 vP3 q3 j (some ⟨wc.heap.size + 1, 0, none⟩) 1 1 [[UInt8.ofNat kn]] hLc hrc (fun k' h1 h2 => by have := hFlt k' h2; omega) rfl (hT.keep ((Kc.trans' k9).old (fun _ => True)) trivial) (by omega)
          rw [HSR.out.1] at hre
          have HKN := hid hkn
          clear hrc hkn
          go_wp2_with fail
          rw [hW8] at hW9
          rw [← hW9]
          refine hre.mono ?_
          rintro e w10 ⟨rfl, F1, vP1, q1, hL1, hF1, k10⟩
          clear hre hW9 hW8
          simp only at hL1
          have z9 := k9.size
          have z10 := k10.size
          have K10 : Keeps (fun k => k < wr.heap.size) w w10 := ((Kc.trans' k9).old _).trans k10 fun k' _ h1 h2 => by have := hF k' h2; omega
          have hT10 : Tab w10 := (hT.keep ((Kc.trans' k9).old (fun _ => True)) trivial).keep (k10.mono fun k' _ h1 => h1) (fun h2 => by have := hF 0 h2; omega)
          have hap := append_any w10 F1 S g vA3 vB3 vP1 q1 j1 A rec.length c rec hL1 (hr.keep (K10.mono fun k' _ h => by have := hS k' h; omega)) rfl hT10 (by omega)
          rw [HSR.out.2.1] at hap
          go_wp2_with fail
          refine hap.mono ?_
          rintro e w11 ⟨rfl, F2, vP2, q2, hL2, hF2, k11⟩
          clear hap
          simp only at hL2
          have z11 := k11.size
          have hsy := lsync_any w11 F2 g vA3 vB3 vP2 q2 j2 hL2 (by omega)
          go_wp2_with fail
          refine hsy.mono ?_
          rintro e w12 ⟨rfl, F3, vA4, vB4, hL4, hF3, k12⟩
          clear hsy
          have z12 := k12.size
          have hcr := lcrash_any w12 F3 g vA4 vB4 _ [] (syncJ j2) 0 hL4 (by omega) (by omega) (by simp [syncJ]) (crashJ_len hL4.good 0)
          rw [show crashJ (syncJ j2) 0 = ((syncJ j2).dA, (syncJ j2).dB) from rfl] at hcr
          go_wp2_with fail
          refine hcr.mono ?_
          rintro e w13 ⟨vA5, vB5, rfl, hA5, hB5, _, k13⟩
          clear hcr
          simp only at hA5 hB5
          obtain ⟨A5, ca5, rfl, _, _⟩ := hA5.slice
          obtain ⟨B5, cb5, rfl, _, _⟩ := hB5.slice
          have f1 : ∀ k', F1 k' → wr.heap.size ≤ k' := fun k' h => by rcases hF1 k' h with h | h; exact hF k' h; omega
          have f2 : ∀ k', F2 k' → wr.heap.size ≤ k' := fun k' h => by rcases hF2 k' h with h | h; exact f1 k' h; omega
          have f3 : ∀ k', F3 k' → wr.heap.size ≤ k' := fun k' h => by rcases hF3 k' h with h | h; exact f2 k' h; omega
          have KX : Keeps (fun k => k < wr.heap.size) wr w13 := (((((k6.old _).trans' (kc.old _)).trans' (k9.old _)).trans k10 fun k' _ h1 h2 => by have := hF k' h2; omega).trans k11 fun k' _ h1 h2 => by have := f1 k' h2; omega).trans' ((k12.mono fun k' _ h1 h2 => by have := f2 k' h2; omega).trans' (k13.old _))
          have hbd13 := KX.heap hbd zbd
          have y0 : w13.cell? ⟨w2.heap.size, 0, none⟩ = some (.slice A2 xs.length ca) := cell_of_heap hbd13
          have y1 : w13.cell? ⟨w2.heap.size, 1, none⟩ = some (.slice B2 ys.length cb) := cell_of_heap hbd13
          have yf : ∀ i, w13.frozen? ⟨w2.heap.size, i, none⟩ = false := fun i => frozen_of_heap hbd13
          have KS : Keeps (· ≠ w2.heap.size) w13 ((w13.setCell ⟨w2.heap.size, 0, none⟩ (.slice A5 (syncJ j2).dA.length ca5)).setCell ⟨w2.heap.size, 1, none⟩ (.slice B5 (syncJ j2).dB.length cb5)) := ((Keeps.refl _ _).setCell (fun _ h => h rfl) _).setCell (fun _ h => h rfl) _
          have hR : InSer w gen rec w2.heap.size kn ((w13.setCell ⟨w2.heap.size, 0, none⟩ (.slice A5 (syncJ j2).dA.length ca5)).setCell ⟨w2.heap.size, 1, none⟩ (.slice B5 (syncJ j2).dB.length cb5)) :=
            ⟨((syncJ j2).dA, (syncJ j2).dB), _, _, by rw [heap_setCell (heap_setCell hbd13 _)]; rfl, (hA5.keep (KS.mono fun k' _ h => by have h' : w12.heap.size ≤ k' := h; show k' ≠ _; omega)).mono fun k' _ h => (by have h' : w12.heap.size ≤ k' := h; omega),
              (hB5.keep (KS.mono fun k' _ h => by have h' : w12.heap.size ≤ k' := h; show k' ≠ _; omega)).mono fun k' _ h => (by have h' : w12.heap.size ≤ k' := h; omega), HSR.out.2.2, ((hold.old _).trans (KX) fun k' hk' _ => by omega).trans KS fun k' hk' _ => by show k' ≠ _; omega⟩
          have HR := hid hR
          clear hR hbd13 hA5 hB5 hL4 hL2 hL1 hLc hL k10 k11 k12 KX
          go_wp2
          exact ⟨⟨kn, by first | rfl | go_num, by have := HKN.out; omega, HR⟩, by have := HKN.out; simp [intOf]; omega⟩
        · have i2 : ¬ (k : Int) ≤ (N : Int) := by omega
          go_wp2
          go_ret
          exact ⟨rfl, hold⟩
    · -- nine
      go_upto_region 5 with fail
      go_wp2_with fail
      refine hd.mono ?_
      rintro e w2 ⟨vh, rfl, hvh, k2⟩
      clear hd
      obtain ⟨Ah, ch, rfl, _, _⟩ := hvh.slice
      rw [headB_length]
      rw [headB_length] at hvh
      obtain ⟨W5, hW5⟩ : ∃ W, W = w2.alloc (.cells #[.slice Ah 16 ch, .slice none 0 0] 24) := ⟨_, rfl⟩
      have k5 : Old w2 W5 := by rw [hW5]; exact (Keeps.refl _ _).alloc _
      have hb5 : W5.heap[w2.heap.size]? = some (.cells #[.slice Ah 16 ch, .slice none 0 0] 24 (0, 0)) := by rw [hW5]; exact heap_alloc_new _ _
      have K5 := (k1.trans' k2).trans' k5
      have zz1 := k1.size
      have zz2 := k2.size
      have HS := hid (show InSer w gen rec w2.heap.size 0 W5 from ⟨(headB gen 0, []), _, _, hb5, (hvh.keep (k5.old _)).mono fun k _ h => (by have h' : wc.heap.size ≤ k := h; omega), OwnB.nil _ _, ser_start gen rec, K5⟩)
      go_upto_region 6 with fail
      rw [← hW5]
      clear hW5 hb5 hvh k5
      go_wp2
      go_loopw [8, 9, 10, 11] (fun v _ _ _ wr => ∃ k : Nat, v = .int .i64 k ∧ k ≤ 9 + 1 ∧ Hid (InSer w gen rec w2.heap.size k wr)) (fun v _ _ _ _ => 9 + 1 - (intOf v).toNat)
      case atStart => exact ⟨0, rfl, by omega, HS⟩
      case round =>
        clear HS K5
        obtain ⟨k, rfl, hk, hin⟩ := hrel
        obtain ⟨⟨xs, ys⟩, vA, vB, hbd, hA, hB, hser, hold⟩ := hin.out
        simp only at hA hB
        clear hin
        by_cases hlt : k ≤ 9
        · obtain ⟨j, j1, j2, hop, hrw, hap, hw1, hw2, hser2⟩ := ser_round hg hl hser
          obtain ⟨A2, ca, rfl, hca, _⟩ := hA.slice
          obtain ⟨B2, cb, rfl, hcb, _⟩ := hB.slice
          have hws := (open_down hop).2
          have hlo := lopen_any wr _ A2 B2 _ _ ca cb xs ys hA.bts hB.bts rfl rfl hca hcb (hT.keep (hold.old (fun _ => True)) trivial)
          rw [hop] at hlo
          have HSR := hid (And.intro hrw (And.intro hap hser2))
          clear hop hrw hap hser2 hser
          have p0 : wr.cell? ⟨w2.heap.size, 0, none⟩ = some (.slice A2 xs.length ca) := cell_of_heap hbd
          have p1 : wr.cell? ⟨w2.heap.size, 1, none⟩ = some (.slice B2 ys.length cb) := cell_of_heap hbd
          have zbd := lt_of_heap hbd
          have hzo := hold.size
          have i2 : (k : Int) ≤ 9 := by omega
          go_wp2_with fail
          refine hlo.mono ?_
          rintro e w6 ⟨F, g, vA3, vB3, vP3, q3, L3, ql3, rfl, hL, hF, hql, hoL, k6⟩
          clear hlo p0 p1
          have hlen3 : ql3.length = (serR rec k).length := by rw [← hql]; simp
          obtain ⟨AL, cL, hLs, _, hRL⟩ := hoL.rcs (by rw [hlen3]; unfold serR; split <;> simp)
          rw [hql] at hRL
          rw [hlen3] at hLs
          subst hLs
          clear hql hlen3 hoL
          have K6 := hold.trans' k6
          have z6 := k6.size
          go_upto_region 12 with fail
          go_cut [8, 9, 58] (fun v8 v9 v wx => v8 = .int .i64 k ∧ v9 = .pointer (some ⟨g, 0, none⟩) ∧ v = .bool false ∧ Old w6 wx)
          case first =>
            by_cases hk0 : k = 0
            · have hk1 : ¬ 0 < k := by omega
              go_wp2
              go_meet
              exact ⟨by first | rfl | simp, rfl, rfl, Keeps.refl _ _⟩
            · have hk1 : 0 < k := by omega
              have bk : IntKind.u8.wrap (k : Int) = (k : Int) := by rw [IntKind.wrap_u8]; omega
              obtain ⟨W6, hW6⟩ : ∃ W, W = w6.alloc (.cells #[.int .u8 (k : Int)] 5) := ⟨_, rfl⟩
              obtain ⟨W7, hW7⟩ : ∃ W, W = W6.alloc (.cells #[.slice (some ⟨w6.heap.size, 0, none⟩) 1 1, .slice A rec.length c] 22) := ⟨_, rfl⟩
              have k7 : Old w6 W7 := by rw [hW7, hW6]; exact ((Keeps.refl _ _).alloc _).alloc _
              have hrc := rcs_two (b := UInt8.ofNat k) (by rw [hW6, bv_small k (by omega)]) hW7 (hr.keep (K6.old _)) hc
              have hls := lists_any W7 _ _ AL (some ⟨w6.heap.size + 1, 0, none⟩) cL 2 (serR rec k) [[UInt8.ofNat k], rec] (hRL.keep (k7.old _)) hrc
              rw [decide_eq_true (show serR rec k = [[UInt8.ofNat k], rec] by rw [serR, if_neg hk0])] at hls
              simp only [List.length_cons, List.length_nil] at hls
              have hls' : Calls Tryd.prog 33 #[.slice AL (serR rec k).length cL, .slice (some ⟨w6.heap.size + 1, 0, none⟩) 2 2] W7 (PostSame W7 true) := hls
              clear hls hrc hk0
              go_wp2_with fail
              rw [hW6] at hW7
              rw [← hW7]
              refine hls'.mono ?_
              rintro e w8 ⟨rfl, nd, hw8⟩
              have k8 : Old W7 w8 := by rw [← hw8]; exact (Keeps.refl _ _).drewN _
              clear hw8 hls' hW7 hW6
              go_wp2
              go_meet
              exact ⟨rfl, rfl, rfl, k7.trans' k8⟩
          case rest =>
          obtain ⟨rfl, rfl, rfl, kc⟩ := hcut
          have Kc := K6.trans' kc
          have zc := kc.size
          have b1 : IntKind.i64.wrap ((k : Int) + 1) = ((k + 1 : Nat) : Int) := by rw [IntKind.wrap_i64]; omega
          have bk : IntKind.u8.wrap ((k + 1 : Nat) : Int) = ((k + 1 : Nat) : Int) := by rw [IntKind.wrap_u8]; omega
          obtain ⟨kn, hkn⟩ : ∃ kn, kn = k + 1 := ⟨_, rfl⟩
          rw [← hkn] at b1 bk HSR
          obtain ⟨W8, hW8⟩ : ∃ W, W = wc.alloc (.cells #[.int .u8 (kn : Int)] 5) := ⟨_, rfl⟩
          obtain ⟨W9, hW9⟩ : ∃ W, W = W8.alloc (.cells #[.slice (some ⟨wc.heap.size, 0, none⟩) 1 1] 22) := ⟨_, rfl⟩
          have k9 : Old wc W9 := by rw [hW9, hW8]; exact ((Keeps.refl _ _).alloc _).alloc _
          have hrc := rcs_one (b := UInt8.ofNat kn) (by rw [hW8, bv_small kn (by omega)]) hW9
          have hLc := (hL.keep (kc.old _)).keep (k9.old _)
          have hFlt := hL.lt
          have hre := rewrite_any W9 F _ g vA3 vB3 vP3 q3 j (some ⟨wc.heap.size + 1, 0, none⟩) 1 1 [[UInt8.ofNat kn]] hLc hrc (fun k' h1 h2 => by have := hFlt k' h2; omega) rfl (hT.keep ((Kc.trans' k9).old (fun _ => True)) trivial) (by omega)
          rw [HSR.out.1] at hre
          have HKN := hid hkn
          clear hrc hkn
          go_wp2_with fail
          rw [hW8] at hW9
          rw [← hW9]
          refine hre.mono ?_
          rintro e w10 ⟨rfl, F1, vP1, q1, hL1, hF1, k10⟩
          clear hre hW9 hW8
          simp only at hL1
          have z9 := k9.size
          have z10 := k10.size
          have K10 : Keeps (fun k => k < wr.heap.size) w w10 := ((Kc.trans' k9).old _).trans k10 fun k' _ h1 h2 => by have := hF k' h2; omega
          have hT10 : Tab w10 := (hT.keep ((Kc.trans' k9).old (fun _ => True)) trivial).keep (k10.mono fun k' _ h1 => h1) (fun h2 => by have := hF 0 h2; omega)
          have hap := append_any w10 F1 S g vA3 vB3 vP1 q1 j1 A rec.length c rec hL1 (hr.keep (K10.mono fun k' _ h => by have := hS k' h; omega)) rfl hT10 (by omega)
          rw [HSR.out.2.1] at hap
          go_wp2_with fail
          refine hap.mono ?_
          rintro e w11 ⟨rfl, F2, vP2, q2, hL2, hF2, k11⟩
          clear hap
          simp only at hL2
          have z11 := k11.size
          have hsy := lsync_any w11 F2 g vA3 vB3 vP2 q2 j2 hL2 (by omega)
          go_wp2_with fail
          refine hsy.mono ?_
          rintro e w12 ⟨rfl, F3, vA4, vB4, hL4, hF3, k12⟩
          clear hsy
          have z12 := k12.size
          have hcr := lcrash_any w12 F3 g vA4 vB4 _ [] (syncJ j2) 0 hL4 (by omega) (by omega) (by simp [syncJ]) (crashJ_len hL4.good 0)
          rw [show crashJ (syncJ j2) 0 = ((syncJ j2).dA, (syncJ j2).dB) from rfl] at hcr
          go_wp2_with fail
          refine hcr.mono ?_
          rintro e w13 ⟨vA5, vB5, rfl, hA5, hB5, _, k13⟩
          clear hcr
          simp only at hA5 hB5
          obtain ⟨A5, ca5, rfl, _, _⟩ := hA5.slice
          obtain ⟨B5, cb5, rfl, _, _⟩ := hB5.slice
          have f1 : ∀ k', F1 k' → wr.heap.size ≤ k' := fun k' h => by rcases hF1 k' h with h | h; exact hF k' h; omega
          have f2 : ∀ k', F2 k' → wr.heap.size ≤ k' := fun k' h => by rcases hF2 k' h with h | h; exact f1 k' h; omega
          have f3 : ∀ k', F3 k' → wr.heap.size ≤ k' := fun k' h => by rcases hF3 k' h with h | h; exact f2 k' h; omega
          have KX : Keeps (fun k => k < wr.heap.size) wr w13 := (((((k6.old _).trans' (kc.old _)).trans' (k9.old _)).trans k10 fun k' _ h1 h2 => by have := hF k' h2; omega).trans k11 fun k' _ h1 h2 => by have := f1 k' h2; omega).trans' ((k12.mono fun k' _ h1 h2 => by have := f2 k' h2; omega).trans' (k13.old _))
          have hbd13 := KX.heap hbd zbd
          have y0 : w13.cell? ⟨w2.heap.size, 0, none⟩ = some (.slice A2 xs.length ca) := cell_of_heap hbd13
          have y1 : w13.cell? ⟨w2.heap.size, 1, none⟩ = some (.slice B2 ys.length cb) := cell_of_heap hbd13
          have yf : ∀ i, w13.frozen? ⟨w2.heap.size, i, none⟩ = false := fun i => frozen_of_heap hbd13
          have KS : Keeps (· ≠ w2.heap.size) w13 ((w13.setCell ⟨w2.heap.size, 0, none⟩ (.slice A5 (syncJ j2).dA.length ca5)).setCell ⟨w2.heap.size, 1, none⟩ (.slice B5 (syncJ j2).dB.length cb5)) := ((Keeps.refl _ _).setCell (fun _ h => h rfl) _).setCell (fun _ h => h rfl) _
          have hR : InSer w gen rec w2.heap.size kn ((w13.setCell ⟨w2.heap.size, 0, none⟩ (.slice A5 (syncJ j2).dA.length ca5)).setCell ⟨w2.heap.size, 1, none⟩ (.slice B5 (syncJ j2).dB.length cb5)) :=
            ⟨((syncJ j2).dA, (syncJ j2).dB), _, _, by rw [heap_setCell (heap_setCell hbd13 _)]; rfl, (hA5.keep (KS.mono fun k' _ h => by have h' : w12.heap.size ≤ k' := h; show k' ≠ _; omega)).mono fun k' _ h => (by have h' : w12.heap.size ≤ k' := h; omega),
              (hB5.keep (KS.mono fun k' _ h => by have h' : w12.heap.size ≤ k' := h; show k' ≠ _; omega)).mono fun k' _ h => (by have h' : w12.heap.size ≤ k' := h; omega), HSR.out.2.2, ((hold.old _).trans (KX) fun k' hk' _ => by omega).trans KS fun k' hk' _ => by show k' ≠ _; omega⟩
          have HR := hid hR
          clear hR hbd13 hA5 hB5 hL4 hL2 hL1 hLc hL k10 k11 k12 KX
          go_wp2
          exact ⟨⟨kn, by first | rfl | go_num, by have := HKN.out; omega, HR⟩, by have := HKN.out; simp [intOf]; omega⟩
        · have i2 : ¬ (k : Int) ≤ 9 := by omega
          go_wp2
          go_ret
          exact ⟨rfl, hold⟩
end Go.Proofs.YtdpaaoeipconcaaDoor
