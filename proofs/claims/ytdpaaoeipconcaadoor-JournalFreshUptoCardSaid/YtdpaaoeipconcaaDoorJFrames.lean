/- journal.seal, frame; weftref12.Head, Frame: what is written. Conditions: the record can be read and is not longer than 65536 bytes; the numbers are of four bytes; the table lies. -/
import Derived.Test.YtdpaaoeipconcaaDoorJSmall
namespace Go.Proofs.YtdpaaoeipconcaaDoor
open Go.RowKit

theorem Bts.of_block {w : World} {g t : Nat} {bs : List UInt8} (hg : w.heap[g]? = some (.cells (bs.map bv).toArray t (0, 0))) (hl : bs.length ≤ 281474976710656) : Bts (fun k => k = g) w (some ⟨g, 0, none⟩) bs :=
  ⟨hl, fun _ => ⟨g, 0, rfl, rfl, fun j hj => by rw [cell_of_heap hg]; simp [hj]⟩⟩

set_option maxHeartbeats 2000000 in
theorem seal_any (w : World) (g a n s : Nat) (hT : Tab w) (hg : g < 4294967296) (ha : a < 4294967296) (hn : n < 4294967296) (hs : s < 4294967296) :
    Calls Tryd.prog 77 #[.int .u32 (g : Int), .int .u32 (a : Int), .int .u32 (n : Int), .int .u32 (s : Int)] w fun e w' => e = .returned (.int .u32 (sealN g a n s : Nat)) ∧ Old w w' := by
  go_enter Tryd.func77, Tryd.ntmps77
  go_wp2_with fail
  obtain ⟨W0, hW0⟩ : ∃ W, W = w.alloc (.cells #[.int .u8 0, .int .u8 0, .int .u8 0, .int .u8 0, .int .u8 0, .int .u8 0, .int .u8 0, .int .u8 0, .int .u8 0, .int .u8 0, .int .u8 0, .int .u8 0, .int .u8 0, .int .u8 0, .int .u8 0, .int .u8 0] 130) := ⟨_, rfl⟩
  rw [← hW0]
  have k0 : Old w W0 := by rw [hW0]; exact (Keeps.refl _ _).alloc _
  have hb0 : W0.heap[w.heap.size]? = some (.cells ((List.replicate 16 (0 : UInt8)).map bv).toArray 130 (0, 0)) := by rw [hW0]; exact heap_alloc_new _ _
  clear hW0
  have hp := hT.pos
  refine (putLong_any W0 w.heap.size 16 16 130 _ 0 g hb0 (by omega) (by simp) (by omega) hg).mono ?_
  rintro e w1 ⟨rfl, hb1, k1, _⟩
  replace hb1 : w1.heap[w.heap.size]? = some (.cells ((four g ++ List.replicate 12 0).map bv).toArray 130 (0, 0)) := hb1
  go_wp2_with fail
  refine (putLong_any w1 w.heap.size 16 16 130 _ 4 a hb1 (by omega) (by simp) (by omega) ha).mono ?_
  rintro e w2 ⟨rfl, hb2, k2, _⟩
  replace hb2 : w2.heap[w.heap.size]? = some (.cells ((four g ++ (four a ++ List.replicate 8 0)).map bv).toArray 130 (0, 0)) := hb2
  go_wp2_with fail
  refine (putLong_any w2 w.heap.size 16 16 130 _ 8 n hb2 (by omega) (by simp) (by omega) hn).mono ?_
  rintro e w3 ⟨rfl, hb3, k3, _⟩
  replace hb3 : w3.heap[w.heap.size]? = some (.cells ((four g ++ (four a ++ (four n ++ List.replicate 4 0))).map bv).toArray 130 (0, 0)) := hb3
  go_wp2_with fail
  refine (putLong_any w3 w.heap.size 16 16 130 _ 12 s hb3 (by omega) (by simp) (by omega) hs).mono ?_
  rintro e w4 ⟨rfl, hb4, k4, _⟩
  have hb5 : w4.heap[w.heap.size]? = some (.cells ((four g ++ four a ++ (four n ++ four s)).map bv).toArray 130 (0, 0)) := hb4
  have K : Keeps (· ≠ w.heap.size) w w4 := (((k0.old _).trans' k1).trans' (k2.trans' k3)).trans' k4
  have hT4 := hT.keep K (by omega)
  clear hb0 hb1 hb2 hb3 hb4 k1 k2 k3 k4
  go_wp2_with fail
  refine (sum_any w4 _ _ 16 _ hT4 (Bts.of_block hb5 (by simp))).mono ?_
  rintro e w5 ⟨rfl, rfl⟩
  go_wp2
  go_ret
  exact ⟨rfl, K.mono fun k hk _ => by omega⟩

set_option maxHeartbeats 2000000 in
theorem head_any (w : World) (g b : Nat) (hg : g < 4294967296) (hb : b < 4294967296) : Calls Tryd.prog 45 #[.int .i64 (g : Int), .int .i64 (b : Int)] w (PostOwn w (headB g b)) := by
  go_enter Tryd.func45, Tryd.ntmps45
  go_wp2_with fail
  obtain ⟨W0, hW0⟩ : ∃ W, W = w.alloc (.cells #[.int .u8 119, .int .u8 101, .int .u8 102, .int .u8 116] 5) := ⟨_, rfl⟩
  rw [← hW0]
  have k0 : Old w W0 := by rw [hW0]; exact (Keeps.refl _ _).alloc _
  have hb0 : W0.heap[w.heap.size]? = some (.cells (([119, 101, 102, 116] : List UInt8).map bv).toArray 5 (0, 0)) := by rw [hW0]; exact heap_alloc_new _ _
  clear hW0
  have r0 := Bts.of_block hb0 (by decide)
  refine (four_any W0 g hg).mono ?_
  rintro e w1 ⟨v1, rfl, h1, k1⟩
  obtain ⟨A1, c1, rfl, _, _⟩ := h1.slice
  go_wp2_with fail
  refine (join_any w1 _ _ _ _ _ _ _ _ _ _ (r0.keep (k1.old _)) h1.bts rfl rfl (by simp)).mono ?_
  rintro e w2 ⟨v2, rfl, h2, k2⟩
  obtain ⟨A2, c2, rfl, _, _⟩ := h2.slice
  go_wp2_with fail
  refine (four_any w2 b hb).mono ?_
  rintro e w3 ⟨v3, rfl, h3, k3⟩
  obtain ⟨A3, c3, rfl, _, _⟩ := h3.slice
  go_wp2_with fail
  refine (join_any w3 _ _ _ _ _ _ _ _ _ _ (h2.bts.keep (k3.old _)) h3.bts rfl rfl (by simp)).mono ?_
  rintro e w4 ⟨v4, rfl, h4, k4⟩
  obtain ⟨A4, c4, rfl, _, _⟩ := h4.slice
  go_wp2_with fail
  refine (crc_any w4 _ _ _ _ _ h4.bts rfl).mono ?_
  rintro e w5 ⟨rfl, rfl⟩
  go_wp2_with fail
  refine (four_any w4 _ (crc_lt _)).mono ?_
  rintro e w6 ⟨v6, rfl, h6, k6⟩
  obtain ⟨A6, c6, rfl, _, _⟩ := h6.slice
  go_wp2_with fail
  refine (join_any w6 _ _ _ _ _ _ _ _ _ _ (h4.bts.keep (k6.old _)) h6.bts rfl rfl (by simp)).mono ?_
  rintro e w7 ⟨v7, rfl, h7, k7⟩
  have K06 : Old w w6 := ((((k0.trans' k1).trans' k2).trans' k3).trans' k4).trans' k6
  go_wp2
  go_ret
  exact ⟨v7, rfl, h7.mono fun k _ h => Nat.le_trans K06.size h, K06.trans' k7⟩

set_option maxHeartbeats 2000000 in
theorem rframe_any (w : World) (S : Nat → Prop) (g a : Nat) (A : Option Addr) (n c : Nat) (rec : List UInt8) (hg : g < 4294967296) (ha : a < 4294967296) (hr : Bts S w A rec) (hn : n = rec.length) (hl : rec.length ≤ 65536) :
    Calls Tryd.prog 79 #[.int .i64 (g : Int), .int .i64 (a : Int), .slice A n c] w (PostOwn w (frameB g a rec)) := by
  subst hn
  go_enter Tryd.func79, Tryd.ntmps79
  go_wp2_with fail
  refine (crc_any w _ _ _ _ _ hr rfl).mono ?_
  rintro e w0 ⟨rfl, rfl⟩
  have hs := crc_lt rec
  go_wp2_with fail
  refine (four_any w g hg).mono ?_
  rintro e w1 ⟨v1, rfl, h1, k1⟩
  obtain ⟨A1, c1, rfl, _, _⟩ := h1.slice
  go_wp2_with fail
  refine (four_any w1 a ha).mono ?_
  rintro e w2 ⟨v2, rfl, h2, k2⟩
  obtain ⟨A2, c2, rfl, _, _⟩ := h2.slice
  go_wp2_with fail
  refine (join_any w2 _ _ _ _ _ _ _ _ _ _ (h1.bts.keep (k2.old _)) h2.bts rfl rfl (by simp)).mono ?_
  rintro e w3 ⟨v3, rfl, h3, k3⟩
  obtain ⟨A3, c3, rfl, _, _⟩ := h3.slice
  go_wp2_with fail
  refine (four_any w3 rec.length (by omega)).mono ?_
  rintro e w4 ⟨v4, rfl, h4, k4⟩
  obtain ⟨A4, c4, rfl, _, _⟩ := h4.slice
  go_wp2_with fail
  refine (four_any w4 _ hs).mono ?_
  rintro e w5 ⟨v5, rfl, h5, k5⟩
  obtain ⟨A5, c5, rfl, _, _⟩ := h5.slice
  go_wp2_with fail
  refine (join_any w5 _ _ _ _ _ _ _ _ _ _ (h4.bts.keep (k5.old _)) h5.bts rfl rfl (by simp)).mono ?_
  rintro e w6 ⟨v6, rfl, h6, k6⟩
  obtain ⟨A6, c6, rfl, _, _⟩ := h6.slice
  go_wp2_with fail
  refine (join_any w6 _ _ _ _ _ _ _ _ _ _ (((h3.bts.keep (k4.old _)).keep (k5.old _)).keep (k6.old _)) h6.bts rfl rfl (by simp)).mono ?_
  rintro e w7 ⟨v7, rfl, h7, k7⟩
  obtain ⟨A7, c7, rfl, _, _⟩ := h7.slice
  go_wp2_with fail
  refine (four_any w7 rec.length (by omega)).mono ?_
  rintro e w8 ⟨v8, rfl, h8, k8⟩
  obtain ⟨A8, c8, rfl, _, _⟩ := h8.slice
  go_wp2_with fail
  refine (four_any w8 _ hs).mono ?_
  rintro e w9 ⟨v9, rfl, h9, k9⟩
  obtain ⟨A9, c9, rfl, _, _⟩ := h9.slice
  go_wp2_with fail
  refine (join_any w9 _ _ _ _ _ _ _ _ _ _ (h8.bts.keep (k9.old _)) h9.bts rfl rfl (by simp)).mono ?_
  rintro e w10 ⟨v10, rfl, h10, k10⟩
  obtain ⟨A10, c10, rfl, _, _⟩ := h10.slice
  go_wp2_with fail
  refine (crc_any w10 _ _ _ _ _ (((h7.bts.keep (k8.old _)).keep (k9.old _)).keep (k10.old _)) rfl).mono ?_
  rintro e w11 ⟨rfl, rfl⟩
  go_wp2_with fail
  refine (four_any w10 _ (crc_lt _)).mono ?_
  rintro e w12 ⟨v12, rfl, h12, k12⟩
  obtain ⟨A12, c12, rfl, _, _⟩ := h12.slice
  go_wp2_with fail
  refine (join_any w12 _ _ _ _ _ _ _ _ _ _ (h10.bts.keep (k12.old _)) h12.bts rfl rfl (by simp)).mono ?_
  rintro e w13 ⟨v13, rfl, h13, k13⟩
  obtain ⟨A13, c13, rfl, _, _⟩ := h13.slice
  have K : Old w w13 := (((((k1.trans' k2).trans' k3).trans' k4).trans' k5).trans' k6).trans' (((((k7.trans' k8).trans' k9).trans' k10).trans' k12).trans' k13)
  go_wp2_with fail
  refine (join_any w13 _ _ _ _ _ _ _ _ _ _ h13.bts (hr.keep (K.old _)) rfl rfl (by simp; omega)).mono ?_
  rintro e w14 ⟨v14, rfl, h14, k14⟩
  go_wp2
  go_ret
  exact ⟨v14, rfl, h14.mono fun k _ h => Nat.le_trans K.size h, K.trans' k14⟩

set_option maxHeartbeats 2000000 in
theorem frame_any (w : World) (S : Nat → Prop) (g a : Nat) (A : Option Addr) (n c : Nat) (rec : List UInt8) (hT : Tab w) (hg : g < 4294967296) (ha : a < 4294967296) (hr : Bts S w A rec) (hn : n = rec.length) (hl : rec.length ≤ 65536) :
    Calls Tryd.prog 60 #[.int .u32 (g : Int), .int .u32 (a : Int), .slice A n c] w (PostOwn w (frameB g a rec)) := by
  subst hn
  obtain ⟨i5, hi, hz0, hz1, hz2⟩ := info_parts info5
  obtain ⟨N, hN⟩ : ∃ N, N = 12 + rec.length := ⟨_, rfl⟩
  have hmk := fun w => run_make (P := Tryd.prog) w 22 5 i5 (.int .u8 0) Tryd.underlying22 hi hz0 .i64 .i64 (N : Int) (N : Int) (by omega) (by omega) (by rw [hz2]; omega) (by omega)
  simp only [hz1, Nat.mul_one, Int.toNat_natCast, show (Value.int .u8 0).cells = #[.int .u8 0] from rfl] at hmk
  have b0 : IntKind.i64.wrap (12 + (rec.length : Int)) = (N : Int) := by rw [IntKind.wrap_i64]; omega
  have HN := hid hN
  clear hN
  have hal := hr.1
  have hs := crc_lt rec
  have hpos := hT.pos
  go_enter Tryd.func60, Tryd.ntmps60
  go_wp2_with fail
  obtain ⟨W0, hW0⟩ : ∃ W, W = w.alloc (.cells (madeCells #[.int .u8 0] N) 5) := ⟨_, rfl⟩
  rw [← hW0]
  have k0 : Old w W0 := by rw [hW0]; exact (Keeps.refl _ _).alloc _
  have hb0 : W0.heap[w.heap.size]? = some (.cells ((List.replicate N (0 : UInt8)).map bv).toArray 5 (0, 0)) := by
    rw [hW0, heap_alloc_new, List.map_replicate, ← toList_madeCells_one]
    rfl
  rw [HN.out, Nat.add_comm 12] at hb0
  replace hb0 : W0.heap[w.heap.size]? = some (.cells ((0 :: 0 :: 0 :: 0 :: 0 :: 0 :: 0 :: 0 :: 0 :: 0 :: 0 :: 0 :: List.replicate rec.length (0 : UInt8)).map bv).toArray 5 (0, 0)) := hb0
  have hR : (List.replicate rec.length (0 : UInt8)).length = rec.length := by simp
  generalize List.replicate rec.length (0 : UInt8) = R at hb0 hR
  clear hW0
  have HR := hid hR
  clear hR
  have hT0 := hT.keep (k0.old (fun _ => True)) trivial
  refine (sum_any W0 S A c rec hT0 (hr.keep (k0.old S))).mono ?_
  rintro e w0 ⟨rfl, rfl⟩
  go_wp2_with fail
  refine (putLong_any W0 w.heap.size N N 5 _ 0 rec.length hb0 (by have := HN.out; omega) (by simp only [List.length_cons]; omega) (by omega) (by omega)).mono ?_
  rintro e w1 ⟨rfl, hb1, k1, _⟩
  replace hb1 : w1.heap[w.heap.size]? = some (.cells ((four rec.length ++ (0 :: 0 :: 0 :: 0 :: 0 :: 0 :: 0 :: 0 :: R)).map bv).toArray 5 (0, 0)) := hb1
  go_wp2_with fail
  refine (putLong_any w1 w.heap.size N N 5 _ 4 _ hb1 (by have := HN.out; omega) (by simp only [List.length_append, List.length_cons, four_length]; omega) (by omega) hs).mono ?_
  rintro e w2 ⟨rfl, hb2, k2, _⟩
  replace hb2 : w2.heap[w.heap.size]? = some (.cells ((four rec.length ++ (four (crc rec) ++ (0 :: 0 :: 0 :: 0 :: R))).map bv).toArray 5 (0, 0)) := hb2
  have hT2 := hT0.keep (k1.trans' k2) (by omega)
  go_wp2_with fail
  refine (seal_any w2 g a rec.length _ hT2 hg ha (by omega) hs).mono ?_
  rintro e w3 ⟨rfl, k3⟩
  have hb3 := k3.heap hb2 trivial
  go_wp2_with fail
  refine (putLong_any w3 w.heap.size N N 5 _ 8 _ hb3 (by have := HN.out; omega) (by simp only [List.length_append, List.length_cons, four_length]; omega) (by omega) (crc_lt _)).mono ?_
  rintro e w4 ⟨rfl, hb4, k4, _⟩
  have K : Keeps (· ≠ w.heap.size) w w4 := (((k0.old _).trans' k1).trans' k2).trans' ((k3.old _).trans' k4)
  have hr4 := hr.keep (K.mono fun k hk _ => by omega)
  replace hb4 : w4.heap[w.heap.size]? = some (.cells ((four rec.length ++ (four (crc rec) ++ (four (sealN g a rec.length (crc rec)) ++ R))).map bv).toArray 5 (0, 0)) := hb4
  obtain ⟨hd, hhd⟩ : ∃ hd, hd = four rec.length ++ four (crc rec) ++ four (sealN g a rec.length (crc rec)) := ⟨_, rfl⟩
  have hdl : hd.length = 12 := by rw [hhd]; simp
  have hb5 : w4.heap[w.heap.size]? = some (.cells ((hd ++ R).map bv).toArray 5 (0, 0)) := by rw [hb4, hhd]; simp
  have fin : ∀ w5, w5.heap[w.heap.size]? = some (.cells ((((hd ++ R).map bv).take 12 ++ rec.map bv ++ ((hd ++ R).map bv).drop (12 + (rec.map bv).length))).toArray 5 (0, 0)) → Keeps (· ≠ w.heap.size) w4 w5 → PostOwn w (frameB g a rec) (.returned (.slice (some ⟨w.heap.size, 0, none⟩) N N)) w5 := fun w5 h5 k5 => by
    have e : ((hd ++ R).map bv).take 12 ++ rec.map bv ++ ((hd ++ R).map bv).drop (12 + (rec.map bv).length) = (frameB g a rec).map bv := by
      have hRR := HR.out
      rw [List.map_append, List.take_append_of_le_length (by simp; omega), List.take_of_length_le (by simp; omega), List.drop_eq_nil_of_le (by simp; omega), List.append_nil, hhd]
      simp [frameB]
    rw [e] at h5
    exact ⟨_, rfl, (OwnB.of_block h5 (by have := HN.out; simp; omega) (by simp; omega)).mono fun k _ h => by have h' : k = w.heap.size := h; omega, (K.trans' k5).mono fun k hk _ => by omega⟩
  have FIN := hid fin
  clear fin hb0 hb1 hb2 hb3 hb4 k1 k2 k3 k4 hhd
  have hcop : ∀ X : Option Addr, (rec ≠ [] → X = some ⟨w.heap.size, 12, none⟩) → ∃ w5, (Builtin.copy_ #[22, 22] 3 #[.slice X (N - 12) (N - 12), .slice A rec.length c]).run Tryd.prog w4 = .ok (.int .i64 (rec.length : Int)) w5 ∧
      w5.heap[w.heap.size]? = some (.cells ((((hd ++ R).map bv).take 12 ++ rec.map bv ++ ((hd ++ R).map bv).drop (12 + (rec.map bv).length))).toArray 5 (0, 0)) ∧ Keeps (· ≠ w.heap.size) w4 w5 := fun X hX => by
    have hRR := HR.out
    have hNN := HN.out
    have hmin : Nat.min rec.length (N - 12) = rec.length := Nat.min_eq_left (by omega)
    obtain ⟨w5, h1, h2, h3, _⟩ := run_copy_ex (P := Tryd.prog) w4 22 22 3 5 1 w.heap.size 12 (N - 12) (N - 12) X A rec.length c ((hd ++ R).map bv) 5 (rec.map bv) Tryd.underlying22 (by rw [hi]; simp [hz1]) (by omega) hb5
      (by rw [hmin]; simp) (fun h => hX (by simpa using h)) (fun h => by
        obtain ⟨ad, e, _, h⟩ := hr4.src (by simpa using h)
        exact ⟨ad, e, h⟩) (by simp; omega) (bv_one rec)
    rw [hmin] at h1
    exact ⟨w5, h1, h2, h3⟩
  have i12 : (12 : Int) ≤ (N : Int) := by have := HN.out; omega
  have i13 : 12 ≤ N := by have := HN.out; omega
  by_cases h12 : N = 12
  · obtain ⟨w5, hcp, h5, k5⟩ := hcop (some ⟨w.heap.size, 0, none⟩) (fun h => absurd (List.length_eq_zero_iff.1 (by have := HN.out; omega)) h)
    subst h12
    simp only [Nat.sub_self] at hcp
    clear i13 hmk b0
    go_wp2
    go_ret
    exact FIN.out _ h5 k5
  · obtain ⟨w5, hcp, h5, k5⟩ := hcop (some ⟨w.heap.size, 12, none⟩) (fun _ => rfl)
    go_wp2
    go_ret
    exact FIN.out _ h5 k5
end Go.Proofs.YtdpaaoeipconcaaDoor
