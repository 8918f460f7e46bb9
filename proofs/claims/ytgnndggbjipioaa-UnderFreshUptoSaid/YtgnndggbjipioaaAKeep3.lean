/- weftlaw12.Book.keep of an empty list that is nil; of any list that begins a block. Conditions: the book lies. -/
import Derived.Test.YtgnndggbjipioaaAKeep2
namespace Go.Proofs.Ytgnndggbjipioaa
open Go.RowKit

set_option maxRecDepth 10000 in
set_option maxHeartbeats 8000000 in
theorem keep_nil (w : World) (K M : Nat → Prop) (p : Nat) (vL vM vO : Value) (es : List (Value × Nat)) (os : List (Value × Int)) (size : Nat) (h : BookM K M w p vL vM vO es os size) (hes : es.length ≤ 4000000000000) (hsz : size ≤ 2305843009213693952) :
    Calls Try.prog 37 #[.pointer (some ⟨p, 0, none⟩), .slice none 0 0] w (PostKeep K M (fun _ => False) w p vO os (es.length + 4) (size + 400)) := by
  obtain ⟨AL, cL, hvL, _, _⟩ := own_slice h.l
  subst hvL
  obtain ⟨AM, cM, hvM, _, _⟩ := own_slice h.m
  subst hvM
  have c0 : w.cell? ⟨p, 0, none⟩ = some (.slice AL es.length cL) := cell_of_heap h.head
  obtain ⟨q, hq⟩ : ∃ q, q = es.length / 4 := ⟨_, rfl⟩
  have q1 : (es.length : Int) / 4 = (q : Int) := by omega
  have q2 : (es.length : Int).tdiv 4 = (q : Int) := by rw [Int.tdiv_eq_ediv_of_nonneg (by omega)]; exact q1
  obtain ⟨m, hm⟩ : ∃ m, m = 1 + q := ⟨_, rfl⟩
  have q3 : IntKind.i64.wrap (1 + (q : Int)) = (m : Int) := by rw [IntKind.wrap_i64]; omega
  have hml : m ≤ 4000000000000 := by omega
  obtain ⟨s2, hs2⟩ : ∃ s2, s2 = size + 400 := ⟨_, rfl⟩
  have b2 : IntKind.i64.wrap ((size : Int) + 400) = (s2 : Int) := by rw [IntKind.wrap_i64]; omega
  rw [← hs2]
  clear hs2 hq hm
  have c2 : w.cell? ⟨p, 2, none⟩ = some (.int .i64 (size : Int)) := cell_of_heap h.head
  have cf : ∀ i, w.frozen? ⟨p, i, none⟩ = false := fun i => frozen_of_heap h.head
  obtain ⟨W1, hW1⟩ : ∃ W, W = w.setCell ⟨p, 2, none⟩ (.int .i64 (s2 : Int)) := ⟨_, rfl⟩
  have hB1 := h.setSize s2
  have k1 : Keeps (· ≠ p) w W1 := by rw [hW1]; exact (Keeps.refl _ _).setCell (fun _ h => h rfl) _
  rw [← hW1] at hB1
  have KM1 : Keeps (fun k' => ¬ M k' ∧ ¬ False) w W1 := k1.mono fun k' _ hs e => hs.1 (by rw [e]; exact h.fp)
  have hz1 := k1.size
  go_enter Try.func37, Try.ntmps37
  go_wp2
  clear q1 q2 q3
  go_loopw [6] (fun i wr => i = .int .i64 0 ∧ w = wr) (fun i _ => (intOf i).toNat)
  case atStart => exact ⟨rfl, rfl⟩
  case round =>
    obtain ⟨rfl, rfl⟩ := hrel
    by_cases hbig : s2 > 4000000
    · have i2 : (s2 : Int) > 4000000 := by omega
      have HB := hid hB1
      have HKM := hid KM1
      clear hB1 KM1
      go_upto_region 7 with fail
      rw [← hW1]
      clear hW1 c2 cf
      have e2 : W1.cell? ⟨p, 2, none⟩ = some (.int .i64 (s2 : Int)) := cell_of_heap HB.out.head
      go_wp2
      refine bodyPost_ret (results_none rfl _ _ _) rfl ?_
      exact ⟨rfl, K, M, _, _, es, HB.out, by omega, fun k' hk' => .inl hk', fun k' hk' => .inl hk', HKM.out⟩
    · have i2 : ¬ (s2 : Int) > 4000000 := by omega
      go_upto_region 7 with fail
      rw [← hW1]
      clear hW1 b2 c2 cf
      have e2 : W1.cell? ⟨p, 2, none⟩ = some (.int .i64 (s2 : Int)) := cell_of_heap hB1.head
      have HB1 := hid hB1
      have HKM1 := hid KM1
      clear hB1 KM1
      go_upto_region 8 with fail
      have hp := pat_any W1 m 0 (by omega) (by omega)
      rw [show ((0 : Nat) : Int) = 0 from rfl] at hp
      go_wp2_with fail
      refine hp.mono ?_
      rintro e w1' ⟨rfl, rfl⟩
      clear hp
      obtain ⟨W2, hW2⟩ : ∃ W, W = W1.alloc (.cells #[bv (patB m 0)] 5) := ⟨_, rfl⟩
      have k2 : Old W1 W2 := by rw [hW2]; exact (Keeps.refl _ _).alloc _
      have hb2 : W2.heap[W1.heap.size]? = some (.cells #[bv (patB m 0)] 5 (0, 0)) := by rw [hW2]; exact heap_alloc_new _ _
      have HZ2 := hid (show W2.heap.size = W1.heap.size + 1 by rw [hW2]; simp)
      go_upto_region 9 with (at_builtin; rw [← hW2]; refine wpList_app1_nil _ (by rfl) _ _ 46 5 (by rfl) Try.underlying46 info5 (by rfl) (by rfl) ⟨W1.heap.size, 0, none⟩ 1 1 [bv (patB m 0)] (by rfl) (by rfl) (World.news_of_block hb2) (by omega) (by omega) (by unfold maxLen; omega) ?_; intro c1 w3 hn3 hc3 hpat3 k3 hz3; replace hz3 := hid hz3)
      clear hW2 hb2
      have hp := pat_any w3 m 0 (by omega) (by omega)
      rw [show ((0 : Nat) : Int) = 0 from rfl] at hp
      have hp2 := pat_any w3 m 1 (by omega) (by omega)
      rw [show ((1 : Nat) : Int) = 1 from rfl] at hp2
      go_wp2_with fail
      refine hp.mono ?_
      rintro e w1' ⟨rfl, rfl⟩
      clear hp
      go_wp2_with fail
      refine hp2.mono ?_
      rintro e w1' ⟨rfl, rfl⟩
      clear hp2
      obtain ⟨W4, hW4⟩ : ∃ W, W = w3.alloc (.cells #[bv (patB m 0), bv (patB m 1)] 5) := ⟨_, rfl⟩
      have k4 : Old w3 W4 := by rw [hW4]; exact (Keeps.refl _ _).alloc _
      have hb4 : W4.heap[w3.heap.size]? = some (.cells #[bv (patB m 0), bv (patB m 1)] 5 (0, 0)) := by rw [hW4]; exact heap_alloc_new _ _
      have HZ4 := hid (show W4.heap.size = w3.heap.size + 1 by rw [hW4]; simp)
      go_upto_region 10 with (at_builtin; rw [← hW4]; refine wpList_app1_nil _ (by rfl) _ _ 46 5 (by rfl) Try.underlying46 info5 (by rfl) (by rfl) ⟨w3.heap.size, 0, none⟩ 2 2 [bv (patB m 0), bv (patB m 1)] (by rfl) (by rfl) (news_two hb4) (by omega) (by omega) (by unfold maxLen; omega) ?_; intro c2 w5 hn5 hc5 hpat5 k5 hz5; replace hz5 := hid hz5)
      clear hW4 hb4
      have hp3 : PatB w3 m W2.heap.size c1 1 := hpat3
      have hp5 : PatB w5 m W4.heap.size c2 2 := hpat5
      clear hpat3 hpat5
      obtain ⟨b1, hb1⟩ : ∃ b1, b1 = W1.heap.size + 1 := ⟨_, rfl⟩
      obtain ⟨b2, hb2⟩ : ∃ b2, b2 = w3.heap.size + 1 := ⟨_, rfl⟩
      rw [HZ2.out, ← hb1] at hp3
      rw [HZ4.out, ← hb2] at hp5
      have k23 : Old W1 w5 := ((k2.trans' k3).trans' k4).trans' k5
      have hl1w : PatV (fun x => x = b1) w5 (.slice (some ⟨b1, 0, none⟩) 1 c1) m := ⟨_, 1, c1, rfl, hn3, PatB.bts (Row1.keep hp3 (k4.trans' k5) trivial) (Nat.le_refl _) (by omega)⟩
      have hl2w : PatV (fun x => x = b2) w5 (.slice (some ⟨b2, 0, none⟩) 2 c2) m := ⟨_, 2, c2, rfl, hn5, PatB.bts hp5 (Nat.le_refl _) (by omega)⟩
      have HLL := hid (And.intro hl1w (And.intro hl2w k23))
      clear hp3 hp5 hl1w hl2w k23 k2 k3 k4 k5
      have hfa : ∀ W, Calls Try.prog 58 #[.int .i64 0] W fun e w' => e = .returned (.int .i64 0) ∧ W = w' := fun W => by
        have h := far_any W 0 (by omega) (by omega)
        rw [show min (0 : Int) 70000 = 0 by omega] at h
        exact h
      go_upto_region 11 with fail
      rw [← hb1, ← hb2]
      have HBB := hid (And.intro hb1 hb2)
      clear hb1 hb2
      go_wp2
      go_loopw [9, 10] (fun g3 i wr => g3 = .slice none 0 0 ∧ i = .int .i64 0 ∧ w5 = wr) (fun _ i _ => (intOf i).toNat)
      case atStart => exact ⟨rfl, rfl, rfl⟩
      case round =>
        obtain ⟨rfl, rfl, rfl⟩ := hrel
        go_wp2_with fail
        with_reducible refine (hfa _).mono ?_
        rintro e w1' ⟨rfl, rfl⟩
        clear hfa
        obtain ⟨hl2', hl3', KW⟩ := HLL.out
        obtain ⟨hb1, hb2⟩ := HBB.out
        have hzW := KW.size
        have hz0 := HKM1.out.size
        have z3 := HZ2.out
        have z4 := hz3.out
        have z5 := HZ4.out
        have z6 := hz5.out
        have hMl : ∀ x, M x → x < w.heap.size := fun x hx => h.lt x (.inr hx)
        obtain ⟨K', hK'⟩ : ∃ K' : Nat → Prop, K' = fun x => K x ∨ x = b1 ∨ x = b2 := ⟨_, rfl⟩
        have hKK : ∀ x, K x → K' x := fun x hx => by rw [hK']; exact .inl hx
        have hK'w : ∀ x, K' x → K x ∨ w.heap.size ≤ x := fun x hx => by
          rw [hK'] at hx
          rcases hx with hx | hx | hx
          · exact .inl hx
          · right; omega
          · right; omega
        have hK'M : ∀ x, K' x → ¬ M x := fun x hx hm => by
          rcases hK'w x hx with h' | h'
          · exact h.apart x h' hm
          · have := hMl x hm; omega
        have hl1 : PatV K' w5 (.slice none 0 0) m := ⟨none, 0, 0, rfl, Nat.le_refl _, Bts.nil _ _ _⟩
        have hl4 := hl1
        have hl2 : PatV K' w5 (.slice (some ⟨b1, 0, none⟩) 1 c1) m := hl2'.mono fun x hx => by rw [hK']; exact .inr (.inl hx)
        have hl3 : PatV K' w5 (.slice (some ⟨b2, 0, none⟩) 2 c2) m := hl3'.mono fun x hx => by rw [hK']; exact .inr (.inr hx)
        have hBr := HB1.out.keep (w' := w5) (KW.old _)
        have KMr : Keeps (fun k' => ¬ M k' ∧ ¬ False) w w5 := HKM1.out.trans' (KW.old _)
        have hK'l : ∀ x, K' x → x < w5.heap.size := fun x hx => by
          rw [hK'] at hx
          rcases hx with hx | hx | hx
          · have := HB1.out.lt x (.inl hx); omega
          · omega
          · omega
        clear hK' HLL hl2' hl3' z3 z4 z5 z6 hz3 hz5 hb1 hb2
        obtain ⟨n1, hn1⟩ : ∃ n1, n1 = [Value.slice none 0 0, .slice (some ⟨b1, 0, none⟩) 1 c1, .slice (some ⟨b2, 0, none⟩) 2 c2, .slice none 0 0] := ⟨_, rfl⟩
        obtain ⟨W6, hW6⟩ : ∃ W, W = w5.alloc (.cells #[.slice none 0 0, .slice (some ⟨b1, 0, none⟩) 1 c1, .slice (some ⟨b2, 0, none⟩) 2 c2, .slice none 0 0] 46) := ⟨_, rfl⟩
        have k6 : Old w5 W6 := by rw [hW6]; exact (Keeps.refl _ _).alloc _
        have hb6 : W6.heap[w5.heap.size]? = some (.cells #[.slice none 0 0, .slice (some ⟨b1, 0, none⟩) 1 c1, .slice (some ⟨b2, 0, none⟩) 2 c2, .slice none 0 0] 46 (0, 0)) := by rw [hW6]; exact heap_alloc_new _ _
        have hB6 := hBr.keep (k6.old _)
        have hrow6 := hB6.l
        have d0 : w5.cell? ⟨p, 0, none⟩ = some (.slice AL es.length cL) := cell_of_heap hBr.head
        have hz6 : W6.heap.size = w5.heap.size + 1 := by rw [hW6]; simp
        go_upto_region 15 with fail
        go_upto_region 16 with (at_builtin; rw [← hW6]; refine wpList_append_ex _ (by rfl) _ _ 60 46 (by rfl) Try.underlying60 info46 (by rfl) (by omega) (by rfl) hrow6 (some ⟨w5.heap.size, 0, none⟩) 4 4 [Value.slice none 0 0, .slice (some ⟨b1, 0, none⟩) 1 c1, .slice (some ⟨b2, 0, none⟩) 2 c2, .slice none 0 0] (by rfl) (by rfl) (fun _ => ⟨_, rfl, World.news_of_block hb6⟩) (by intro u hu; simp at hu; rcases hu with rfl | rfl | rfl | rfl <;> rfl) (by omega) (by unfold maxLen; omega) ?_; intro v7 w7 hown7 hgrow7 hat7; have K67 : Keeps (fun k => (Value.slice AL es.length cL).ownBlock ≠ some k) W6 w7 := (Keeps.refl _ W6).grown hgrow7 (fun k _ h hn => hn h); have hh7 := K67.heap hB6.head hB6.parts.1; have u0 : w7.cell? ⟨p, 0, none⟩ = some (.slice AL es.length cL) := cell_of_heap hh7; have uf : ∀ i, w7.frozen? ⟨p, i, none⟩ = false := fun i => frozen_of_heap hh7; obtain ⟨w8, e8, hd8, hl8, hm8, ho8, k8, hv8, hvp8⟩ := hB6.pushL (ns := n1) K67 (by rw [hn1]; exact hown7) hat7; obtain ⟨A7, c7, hv7, _, _⟩ := own_slice hown7; subst hv7)
        rw [← e8]
        clear e8 hown7 hgrow7 hat7 K67 hh7 u0 uf hW6 hb6 hrow6
        have hn1l : n1.length = 4 := by rw [hn1]; rfl
        have d1 : w8.cell? ⟨p, 1, none⟩ = some (.slice AM es.length cM) := cell_of_heap hd8
        obtain ⟨W9, hW9⟩ : ∃ W, W = w8.alloc (.cells #[.int .i64 (m : Int), .int .i64 (m : Int), .int .i64 (m : Int), .int .i64 (m : Int)] 3) := ⟨_, rfl⟩
        have k9 : Old w8 W9 := by rw [hW9]; exact (Keeps.refl _ _).alloc _
        have hb9 : W9.heap[w8.heap.size]? = some (.cells #[.int .i64 (m : Int), .int .i64 (m : Int), .int .i64 (m : Int), .int .i64 (m : Int)] 3 (0, 0)) := by rw [hW9]; exact heap_alloc_new _ _
        have hm9 := own_keeps hm8 k9 (fun _ _ => trivial)
        have hl9 := own_keeps hl8 k9 (fun _ _ => trivial)
        have ho9 := own_keeps ho8 k9 (fun _ _ => trivial)
        have hd9 := k9.heap hd8 trivial
        have hz8 := k8.size
        have hz9 := k9.size
        go_wp2_with (at_builtin; rw [← hW9]; refine wpList_append_ex _ (by rfl) _ _ 54 3 (by rfl) Try.underlying54 info3 (by rfl) (by omega) (by rfl) hm9 (some ⟨w8.heap.size, 0, none⟩) 4 4 [.int .i64 (m : Int), .int .i64 (m : Int), .int .i64 (m : Int), .int .i64 (m : Int)] (by rfl) (by rfl) (fun _ => ⟨_, rfl, World.news_of_block hb9⟩) (by intro u hu; simp at hu; rw [hu]; rfl) (by omega) (by unfold maxLen; omega) ?_; intro v10 w10 hown10 hgrow10 hat10; have K10 : Keeps (fun k => (Value.slice AM es.length cM).ownBlock ≠ some k) W9 w10 := (Keeps.refl _ W9).grown hgrow10 (fun k _ h hn => hn h); have hmp : (Value.slice AM es.length cM).ownBlock ≠ some p := hB6.parts.2.1; have hh10 := K10.heap hd9 hmp; have y1 : w10.cell? ⟨p, 1, none⟩ = some (.slice AM es.length cM) := cell_of_heap hh10; have yf : ∀ i, w10.frozen? ⟨p, i, none⟩ = false := fun i => frozen_of_heap hh10; obtain ⟨A10, c10, hv10, _, _⟩ := own_slice hown10; subst hv10)
        clear hW9 hb9 d1
        have hz10 := K10.size
        obtain ⟨W11, hW11⟩ : ∃ W, W = w10.setCell ⟨p, 1, none⟩ (.slice A10 (es.length + 4) c10) := ⟨_, rfl⟩
        have k11 : Keeps (· ≠ p) w10 W11 := by rw [hW11]; exact (Keeps.refl _ _).setCell (fun _ h => h rfl) _
        have hd11 : W11.heap[p]? = some (.cells #[.slice A7 (es.length + 4) c7, .slice A10 (es.length + 4) c10, .int .i64 (s2 : Int), vO] 63 (0, 0)) := by rw [hW11, heap_setCell hh10]; rfl
        rw [hn1l] at hl8 hl9
        have hvp10 : (Value.slice A10 (es.length + 4) c10).ownBlock ≠ some p := own_ne_heap hown10 hh10 (by decide)
        have hl11 := own_keeps (own_keeps hl9 K10 (fun x hx => fun e => own_ne hl9 hm9 (by decide) hx e)) k11 (fun x hx e => hvp8 (by rw [hx, e]))
        have hm11 := own_keeps hown10 k11 (fun x hx e => hvp10 (by rw [hx, e]))
        have hvo : vO.ownBlock ≠ some p := hB6.parts.2.2.1
        have ho11 := own_keeps (own_keeps ho9 K10 (fun x hx => fun e => own_ne ho9 hm9 (by decide) hx e)) k11 (fun x hx e => hvo (by rw [hx, e]))
        have kM : Keeps (fun x => ¬ M x) w5 W11 := ((((k6.old _).trans' k8).trans' (k9.old _)).trans' (K10.mono fun x _ hx e => hx (hB6.mf x e))).trans' (k11.mono fun x _ hx e => hx (by rw [e]; exact h.fp))
        have kK : Keeps K' w5 W11 := kM.mono fun x _ hx => hK'M x hx
        have hM10 : ∀ x, (Value.slice A10 (es.length + 4) c10).ownBlock = some x → M x ∨ W6.heap.size ≤ x := fun x hx => by
          rcases hat10 with e | e
          · rw [e] at hx; exact .inl (hB6.mf x hx)
          · rw [e] at hx; injection hx with hx; right; omega
        have hsl : (fun e : Value × Nat => e.1) = (·.1) := rfl
        have hB11 : BookM K' (fun x => M x ∨ (Value.slice A7 (es.length + 4) c7).ownBlock = some x ∨ (Value.slice A10 (es.length + 4) c10).ownBlock = some x) W11 p (.slice A7 (es.length + 4) c7) (.slice A10 (es.length + 4) c10) vO
            (es ++ [(Value.slice none 0 0, m), (.slice (some ⟨b1, 0, none⟩) 1 c1, m), (.slice (some ⟨b2, 0, none⟩) 2 c2, m), (.slice none 0 0, m)]) os s2 := by
          refine ⟨hd11, ?_, fun x hx => .inr (.inl hx), ?_, fun x hx => .inr (.inr hx), ho11, fun x hx => .inl (hBr.of x hx), fun e he => ?_, fun e he => ((hBr.outs e he).mono hKK).keep kK, .inl h.fp, fun x hx hm => ?_, fun x hx => ?_, fun e he => ?_⟩
          · rw [List.length_append, List.map_append]
            rw [hn1] at hl11
            exact hl11
          · rw [List.length_append, List.map_append]
            exact hm11
          · rcases List.mem_append.1 he with he | he
            · exact ((hBr.ents e he).mono hKK).keep kK
            · simp at he
              rcases he with rfl | rfl | rfl | rfl
              · exact hl1.keep kK
              · exact hl2.keep kK
              · exact hl3.keep kK
              · exact hl4.keep kK
          · have h1 := hK'l x hx
            rcases hm with hm | hm | hm
            · exact hK'M x hx hm
            · rcases hv8 x hm with h' | h'
              · exact hK'M x hx h'
              · omega
            · rcases hM10 x hm with h' | h'
              · exact hK'M x hx h'
              · omega
          · have hzk := kM.size
            rcases hx with hx | hx | hx | hx
            · have := hK'l x hx; omega
            · have := hMl x hx; omega
            · exact own_lt hl11 hx
            · exact own_lt hm11 hx
          · rcases List.mem_append.1 he with he | he
            · exact hBr.ml e he
            · simp at he
              rcases he with rfl | rfl | rfl | rfl <;> exact Nat.le_trans hml (by decide)
        have HB11 := hid hB11
        have HKK := hid (KMr.trans' (kM.mono fun x _ hx => hx.1))
        clear hB11 hl11 hm11 ho11 hd11 hl9 hm9 ho9 hd9 hl8 hm8 ho8 hd8 hown10 hgrow10 hh10 hl1 hl2 hl3 hl4 K10 k11 kM kK KMr hBr hB6 k6 k8 k9
        first | go_end0 | refine bodyPost_ret (results_none rfl _ _ _) rfl ?_
        rw [← hW11]
        exact ⟨rfl, K', _, _, _, _, HB11.out, by simp, fun x hx => by
          rcases hK'w x hx with h' | h'
          · exact .inl h'
          · exact .inr (.inr h'), fun x hx => by
          rcases hx with hx | hx | hx
          · exact .inl hx
          · rcases hv8 x hx with h' | h'
            · exact .inl h'
            · right; omega
          · rcases hM10 x hx with h' | h'
            · exact .inl h'
            · right; omega, HKK.out⟩

/-- What may be kept: nothing, or the front of a block that is neither kept nor the book's. -/
def KeepIn (K M : Nat → Prop) (w : World) (lv : Value) (n : Nat) : Prop := (lv = .slice none 0 0 ∧ n = 0) ∨ ∃ b c, lv = .slice (some ⟨b, 0, none⟩) n c ∧ Row1 w 5 b c [] ∧ n ≤ c ∧ c ≤ maxLen ∧ ¬ K b ∧ ¬ M b

theorem KeepIn.ofOwn {K M F : Nat → Prop} {w : World} {v : Value} {bs : List UInt8} (h : OwnB F w v bs) (hF : ∀ k, k < w.heap.size → F k → ¬ K k ∧ ¬ M k) : KeepIn K M w v bs.length := by
  rcases h.row.2 with ⟨hv, h0⟩ | ⟨g, cap, cur, hv, hb0, hg, hnc, hcm, hcs, ht⟩
  · exact .inl ⟨hv, h0⟩
  · have hf := hF g (lt_of_heap hg) (h.foot g (by rw [hv]; rfl))
    exact .inr ⟨g, cap, hv, ⟨cur, hg, by omega, by simp, by simp⟩, hnc, hcm, hf.1, hf.2⟩

theorem keep_any (w : World) (K M : Nat → Prop) (p : Nat) (vL vM vO : Value) (es : List (Value × Nat)) (os : List (Value × Int)) (size : Nat) (h : BookM K M w p vL vM vO es os size) (hes : es.length ≤ 4000000000000) (hsz : size ≤ 2305843009213693952)
    (lv : Value) (n : Nat) (hlv : KeepIn K M w lv n) (hnl : n ≤ 1000000000000) :
    Calls Try.prog 37 #[.pointer (some ⟨p, 0, none⟩), lv] w (PostKeep K M (fun k => lv.ownBlock = some k) w p vO os (es.length + 4) (size + n + 400)) := by
  rcases hlv with ⟨rfl, rfl⟩ | ⟨b, c, rfl, hr, hn, hc, hK, hM⟩
  · refine (keep_nil w K M p vL vM vO es os size h hes hsz).mono ?_
    rintro e w' ⟨rfl, K', M', vL', vM', es', h1, h2, h3, h4, h5⟩
    exact ⟨rfl, K', M', vL', vM', es', h1, h2, fun k hk => by
      rcases h3 k hk with h' | h' | h'
      · exact .inl h'
      · exact h'.elim
      · exact .inr (.inr h'), h4, h5.mono fun k _ hk => ⟨hk.1, fun hf => hf⟩⟩
  · refine (keep_blk w K M p vL vM vO es os size h hes hsz b n c hr hn hnl hc hK hM).mono ?_
    rintro e w' ⟨rfl, K', M', vL', vM', es', h1, h2, h3, h4, h5⟩
    exact ⟨rfl, K', M', vL', vM', es', h1, h2, fun k hk => by
      rcases h3 k hk with h' | h' | h'
      · exact .inl h'
      · exact .inr (.inl (by rw [h']; rfl))
      · exact .inr (.inr h'), h4, h5.mono fun k _ hk => ⟨hk.1, fun hf => hk.2 (by rw [hf]; rfl)⟩⟩
end Go.Proofs.Ytgnndggbjipioaa

