/- weftlaw12.Book.keep. Conditions: the book lies; the list begins a block that nobody else has. -/
import Derived.Test.YtgnndggbjipioaaAKeep
namespace Go.Proofs.Ytgnndggbjipioaa
open Go.RowKit

def PostKeep (K M B : Nat → Prop) (w : World) (p : Nat) (vO : Value) (os : List (Value × Int)) (N size : Nat) (e : Ending) (w' : World) : Prop :=
  e = .returned (.tuple #[]) ∧ ∃ K' M' vL vM es, BookM K' M' w' p vL vM vO es os size ∧ es.length ≤ N ∧ (∀ k, K' k → K k ∨ B k ∨ w.heap.size ≤ k) ∧ (∀ k, M' k → M k ∨ w.heap.size ≤ k) ∧ Keeps (fun k => ¬ M k ∧ ¬ B k) w w'

theorem info3 : (Try.prog.info? 3).map (fun i => (i.zero, i.size, i.bytes)) = some (some (.int .i64 0), 1, 8) := by kernel_rfl

theorem news_two {w : World} {g t : Nat} {a b : Value} (h : w.heap[g]? = some (.cells #[a, b] t (0, 0))) : ∀ j u, [a, b][j]? = some u → w.cell? ((⟨g, 0, none⟩ : Addr).add j) = some u := by
  intro j u hj
  rw [add_none0, Nat.zero_add, cell_of_heap h]
  simpa using hj

set_option maxRecDepth 10000 in
set_option maxHeartbeats 8000000 in
theorem keep_blk (w : World) (K M : Nat → Prop) (p : Nat) (vL vM vO : Value) (es : List (Value × Nat)) (os : List (Value × Int)) (size : Nat) (h : BookM K M w p vL vM vO es os size) (hes : es.length ≤ 4000000000000) (hsz : size ≤ 2305843009213693952)
    (b n c : Nat) (hr : Row1 w 5 b c []) (hn : n ≤ c) (hnl : n ≤ 1000000000000) (hc : c ≤ maxLen) (hK : ¬ K b) (hM : ¬ M b) :
    Calls Try.prog 37 #[.pointer (some ⟨p, 0, none⟩), .slice (some ⟨b, 0, none⟩) n c] w (PostKeep K M (fun k => k = b) w p vO os (es.length + 4) (size + n + 400)) := by
  obtain ⟨AL, cL, hvL, _, _⟩ := own_slice h.l
  subst hvL
  obtain ⟨AM, cM, hvM, _, _⟩ := own_slice h.m
  subst hvM
  have c0 : w.cell? ⟨p, 0, none⟩ = some (.slice AL es.length cL) := cell_of_heap h.head
  obtain ⟨q, hq⟩ : ∃ q, q = es.length / 4 := ⟨_, rfl⟩
  have q1 : (es.length : Int) / 4 = (q : Int) := by omega
  have q2 : (es.length : Int).tdiv 4 = (q : Int) := by rw [Int.tdiv_eq_ediv_of_nonneg (by omega)]; exact q1
  obtain ⟨m, hm⟩ : ∃ m, m = 1 + q := ⟨_, rfl⟩
  have q3 : IntKind.i64.wrap (1 + (q : Int)) = (m : Int) := by rw [IntKind.wrap_i64]; omega
  have hml : m ≤ 4000000000000 := by omega
  unfold maxLen at hc
  have hbp : b ≠ p := fun e => hM (by rw [e]; exact h.fp)
  have b1 : IntKind.i64.wrap ((size : Int) + (n : Int)) = (size : Int) + (n : Int) := by rw [IntKind.wrap_i64]; omega
  obtain ⟨s2, hs2⟩ : ∃ s2, s2 = size + n + 400 := ⟨_, rfl⟩
  have b2 : IntKind.i64.wrap ((size : Int) + (n : Int) + 400) = (s2 : Int) := by rw [IntKind.wrap_i64]; omega
  rw [← hs2]
  clear hs2
  have HW := hid (And.intro b1 b2)
  clear b1 b2
  have HS := hid (show PatB w m b c 0 from hr)
  have HK := hid (Keeps.refl (· ≠ b) w)
  clear hq hm hr
  go_enter Try.func37, Try.ntmps37
  go_wp2
  clear q1 q2 q3
  go_loopw [6] (fun i wr => ∃ k : Nat, i = .int .i64 k ∧ k ≤ n ∧ Hid (PatB wr m b c k) ∧ Hid (Keeps (· ≠ b) w wr)) (fun i _ => n - (intOf i).toNat)
  case atStart => exact ⟨0, rfl, Nat.zero_le _, HS, HK⟩
  case round =>
    clear HS HK
    obtain ⟨k, rfl, hk, hpat, hkk⟩ := hrel
    have i0 : (0 : Int) ≤ (k : Int) := by omega
    have hzk := hkk.out.size
    by_cases hlt : k < n
    · have i1 : (k : Int) < (n : Int) := by omega
      obtain ⟨u, hu⟩ := Row1.some_ hpat.out (i := k) (by omega)
      have hf := Row1.frozen hpat.out
      have HR := hid (hpat.out.step (by omega))
      have HK := hid (hkk.out.setCell (p := ⟨b, k, none⟩) (fun _ h => h rfl) (bv (patB m k)))
      have hp := pat_any wr m k (by omega) (by omega)
      go_wp2_with fail
      refine hp.mono ?_
      rintro e w1 ⟨rfl, rfl⟩
      clear hp
      go_wp2
      exact ⟨⟨k + 1, by go_num, by omega, HR, HK⟩, by simp [intOf]; omega⟩
    · obtain rfl : k = n := by omega
      have i1 : ¬ ((k : Nat) : Int) < (k : Int) := by omega
      have hB0 := h.keep (w' := wr) (hkk.out.mono fun k' _ hs e => by
        rcases hs with hs | hs
        · exact hK (by rw [← e]; exact hs)
        · exact hM (by rw [← e]; exact hs))
      have c2 : wr.cell? ⟨p, 2, none⟩ = some (.int .i64 (size : Int)) := cell_of_heap hB0.head
      have cf : ∀ i, wr.frozen? ⟨p, i, none⟩ = false := fun i => frozen_of_heap hB0.head
      obtain ⟨b1, b2⟩ := HW.out
      obtain ⟨W1, hW1⟩ : ∃ W, W = wr.setCell ⟨p, 2, none⟩ (.int .i64 (s2 : Int)) := ⟨_, rfl⟩
      have hB1 := hB0.setSize s2
      have k1 : Keeps (· ≠ p) wr W1 := by rw [hW1]; exact (Keeps.refl _ _).setCell (fun _ h => h rfl) _
      rw [← hW1] at hB1
      have hpat1 := Row1.keep hpat.out k1 hbp
      have KM1 : Keeps (fun k' => ¬ M k' ∧ ¬ k' = b) w W1 := (hkk.out.mono fun k' _ hs => hs.2).trans k1 fun k' _ hs e => hs.1 (by rw [e]; exact h.fp)
      have hz1 := k1.size
      by_cases hbig : s2 > 4000000
      · have i2 : (s2 : Int) > 4000000 := by omega
        have HB := hid hB1
        have HKM := hid KM1
        clear hB1 KM1 hB0 hpat1
        go_upto_region 7 with fail
        rw [← hW1]
        clear hW1
        have e2 : W1.cell? ⟨p, 2, none⟩ = some (.int .i64 (s2 : Int)) := cell_of_heap HB.out.head
        go_wp2
        refine bodyPost_ret (results_none rfl _ _ _) rfl ?_
        exact ⟨rfl, K, M, _, _, es, HB.out, by omega, fun k' hk' => .inl hk', fun k' hk' => .inl hk', HKM.out⟩
      · have i2 : ¬ (s2 : Int) > 4000000 := by omega
        go_upto_region 7 with fail
        rw [← hW1]
        clear hW1 b1 b2 c2 cf
        have e2 : W1.cell? ⟨p, 2, none⟩ = some (.int .i64 (s2 : Int)) := cell_of_heap hB1.head
        have hB1' := hB1
        have HB1 := hid hB1
        have HKM1 := hid KM1
        clear hB1 hB1' KM1 hB0
        go_upto_region 8 with fail
        -- g1
        have hp := pat_any W1 m k (by omega) (by omega)
        go_wp2_with fail
        refine hp.mono ?_
        rintro e w1' ⟨rfl, rfl⟩
        clear hp
        obtain ⟨W2, hW2⟩ : ∃ W, W = W1.alloc (.cells #[bv (patB m k)] 5) := ⟨_, rfl⟩
        have k2 : Old W1 W2 := by rw [hW2]; exact (Keeps.refl _ _).alloc _
        have hb2 : W2.heap[W1.heap.size]? = some (.cells #[bv (patB m k)] 5 (0, 0)) := by rw [hW2]; exact heap_alloc_new _ _
        have hz2 : W2.heap.size = W1.heap.size + 1 := by rw [hW2]; simp
        have hpat2 : PatB W2 m b c k := Row1.keep hpat1 k2 trivial
        have hxl : k ≤ ((pats m k).map bv).length := by rw [List.length_map, pats_length]; exact Nat.le_refl _
        have hbw : b < W1.heap.size := Row1.lt hpat1
        go_upto_region 9 with (at_builtin; rw [← hW2]; refine wpList_app1 _ (by rfl) _ _ 46 5 (by rfl) Try.underlying46 info5 (by rfl) (by rfl) hpat2 hxl ⟨W1.heap.size, 0, none⟩ 1 1 [bv (patB m k)] (by rfl) (by rfl) (World.news_of_block hb2) (one_one rfl) (by omega) (by omega) (by unfold maxLen; omega) ?_; intro v3 w3 hap3)
        obtain ⟨b1, c1, f3, hv3, hn3, hc3, hf3, hpat3, hor3, k3, hz3⟩ := app_pat (r := 1) hap3 hpat2 (Nat.le_refl _) (by unfold maxLen; omega)
        subst hv3
        clear hW2 hb2 hap3
        -- g2
        have hp := pat_any w3 m k (by omega) (by omega)
        have hp2 := pat_any w3 m (k + 1) (by omega) (by omega)
        rw [show ((k + 1 : Nat) : Int) = (k : Int) + 1 by omega] at hp2
        go_wp2_with fail
        refine hp.mono ?_
        rintro e w1' ⟨rfl, rfl⟩
        clear hp
        go_wp2_with fail
        refine hp2.mono ?_
        rintro e w1' ⟨rfl, rfl⟩
        clear hp2
        obtain ⟨W4, hW4⟩ : ∃ W, W = w3.alloc (.cells #[bv (patB m k), bv (patB m (k + 1))] 5) := ⟨_, rfl⟩
        have k4 : Old w3 W4 := by rw [hW4]; exact (Keeps.refl _ _).alloc _
        have hb4 : W4.heap[w3.heap.size]? = some (.cells #[bv (patB m k), bv (patB m (k + 1))] 5 (0, 0)) := by rw [hW4]; exact heap_alloc_new _ _
        have hz4 : W4.heap.size = w3.heap.size + 1 := by rw [hW4]; simp
        have hpat4 : PatB W4 m b c f3 := Row1.keep hpat3 k4 trivial
        have hxl4 : k ≤ ((pats m f3).map bv).length := by rw [List.length_map, pats_length]; exact hf3
        go_upto_region 10 with (at_builtin; rw [← hW4]; refine wpList_app1 _ (by rfl) _ _ 46 5 (by rfl) Try.underlying46 info5 (by rfl) (by rfl) hpat4 hxl4 ⟨w3.heap.size, 0, none⟩ 2 2 [bv (patB m k), bv (patB m (k + 1))] (by rfl) (by rfl) (news_two hb4) (by intro u hu; simp at hu; rcases hu with rfl | rfl <;> rfl) (by omega) (by omega) (by unfold maxLen; omega) ?_; intro v5 w5 hap5)
        obtain ⟨b2, c2, f5, hv5, hn5, hc5, hf5, hpat5, hor5, k5, hz5⟩ := app_pat (r := 2) hap5 hpat4 hf3 (by unfold maxLen; omega)
        subst hv5
        clear hW4 hb4 hap5
        -- g3
        obtain ⟨r, hrr⟩ : ∃ r, r = c - k := ⟨_, rfl⟩
        obtain ⟨FR, hFR⟩ : ∃ FR, FR = min r 70000 := ⟨_, rfl⟩
        have b3 : IntKind.i64.wrap ((c : Int) - (k : Int)) = (r : Int) := by rw [IntKind.wrap_i64]; omega
        have hfa : ∀ W, Calls Try.prog 58 #[.int .i64 (r : Int)] W fun e w' => e = .returned (.int .i64 (FR : Int)) ∧ W = w' := fun W => by
          have h := far_any W (r : Int) (by omega) (by omega)
          rw [show min (r : Int) 70000 = (FR : Int) by omega] at h
          exact h
        have HFA := hid hfa
        have hFc : k + FR ≤ c := by omega
        have hF7 : FR ≤ 70000 := by omega
        have HS := hid (And.intro hpat5 (Keeps.refl (· ≠ b) w5))
        have H5 := hid (And.intro hor3 (And.intro hor5 (And.intro k3 (And.intro k4 (And.intro k5 k2)))))
        clear hrr hFR hfa hor3 hor5 k3 k4 k5 hpat5 hpat4 hpat3 hpat2 hpat1 hxl hxl4 k2
        go_wp2
        go_loopw [9, 10] (fun g3 i wr => ∃ (j f : Nat), i = .int .i64 j ∧ j ≤ FR ∧ g3 = .slice (some ⟨b, 0, none⟩) (k + j) c ∧ k + j ≤ f ∧ f5 ≤ f ∧ Hid (PatB wr m b c f ∧ Keeps (· ≠ b) w5 wr)) (fun _ i _ => FR - (intOf i).toNat)
        case atStart => exact ⟨0, f5, rfl, Nat.zero_le _, rfl, by omega, Nat.le_refl _, HS⟩
        case round =>
          clear HS
          obtain ⟨j, f, rfl, hj, rfl, hjf, hff, hin⟩ := hrel
          have i0 : (0 : Int) ≤ (j : Int) := by omega
          go_wp2_with fail
          with_reducible refine (HFA.out _).mono ?_
          rintro e w1' ⟨rfl, rfl⟩
          by_cases hlt : j < FR
          · have i1 : (j : Int) < (FR : Int) := by omega
            have hp := pat_any wr m (k + j) (by omega) (by omega)
            rw [show ((k + j : Nat) : Int) = (k : Int) + (j : Int) by omega] at hp
            have b4 : IntKind.i64.wrap ((k : Int) + (j : Int)) = (k : Int) + (j : Int) := by rw [IntKind.wrap_i64]; omega
            go_wp2_with fail
            refine hp.mono ?_
            rintro e w1' ⟨rfl, rfl⟩
            clear hp
            obtain ⟨hpr, hkr⟩ := hin.out
            obtain ⟨W6, hW6⟩ : ∃ W, W = wr.alloc (.cells #[bv (patB m (k + j))] 5) := ⟨_, rfl⟩
            have k6 : Old wr W6 := by rw [hW6]; exact (Keeps.refl _ _).alloc _
            have hb6 : W6.heap[wr.heap.size]? = some (.cells #[bv (patB m (k + j))] 5 (0, 0)) := by rw [hW6]; exact heap_alloc_new _ _
            have hpat6 : PatB W6 m b c f := Row1.keep hpr k6 trivial
            have hxl6 : k + j ≤ ((pats m f).map bv).length := by rw [List.length_map, pats_length]; exact hjf
            have hzk6 := hkr.size
            go_wp2_with (at_builtin; rw [← hW6]; refine wpList_app1 _ (by rfl) _ _ 46 5 (by rfl) Try.underlying46 info5 (by rfl) (by rfl) hpat6 hxl6 ⟨wr.heap.size, 0, none⟩ 1 1 [bv (patB m (k + j))] (by rfl) (by rfl) (World.news_of_block hb6) (one_one rfl) (by omega) (by omega) (by unfold maxLen; omega) ?_; intro v7 w7 hap7)
            obtain ⟨b7, c7, f7, hv7, hn7, hc7, hf7, hpat7, hor7, k7, hz7⟩ := app_pat (r := 1) hap7 hpat6 hjf (by unfold maxLen; omega)
            have h7 : b7 = b ∧ c7 = c ∧ k + j + 1 ≤ f7 := by
              rcases hor7 with h | ⟨_, _, h⟩
              · exact h
              · omega
            obtain ⟨e7, e7', hnf7⟩ := h7
            rw [e7, e7'] at hv7
            subst hv7
            have HR := hid (And.intro hpat7 ((hkr.trans' (k6.old _)).trans' k7))
            clear hap7 hpat7 hpat6 k6 k7 hb6 hpr hkr hor7
            refine ⟨⟨j + 1, f7, by go_num, by omega, by rw [Nat.add_assoc], by omega, by omega, HR⟩, by simp [intOf]; omega⟩
          · obtain rfl : j = FR := by omega
            have i1 : ¬ ((j : Nat) : Int) < (j : Int) := by omega
            obtain ⟨hpr, hkr⟩ := hin.out
            obtain ⟨hor3, hor5, k3, k4, k5, k2⟩ := H5.out
            have KW : Keeps (· ≠ b) W1 wr := ((((k2.old _).trans' k3).trans' (k4.old _)).trans' k5).trans' hkr
            have hzr := hkr.size
            have hzW := KW.size
            have hz0 := HKM1.out.size
            have hMl : ∀ x, M x → x < w.heap.size := fun x hx => h.lt x (.inr hx)
            obtain ⟨K', hK'⟩ : ∃ K' : Nat → Prop, K' = fun x => K x ∨ x = b ∨ x = b1 ∨ x = b2 := ⟨_, rfl⟩
            have hKK : ∀ x, K x → K' x := fun x hx => by rw [hK']; exact .inl hx
            have hKb : K' b := by rw [hK']; exact .inr (.inl rfl)
            have hKb1 : K' b1 := by rw [hK']; exact .inr (.inr (.inl rfl))
            have hKb2 : K' b2 := by rw [hK']; exact .inr (.inr (.inr rfl))
            have hb1w : b1 = b ∨ w.heap.size ≤ b1 := by
              rcases hor3 with ⟨e, _⟩ | ⟨e, _⟩
              · exact .inl e
              · right; omega
            have hb2w : b2 = b ∨ w.heap.size ≤ b2 := by
              rcases hor5 with ⟨e, _⟩ | ⟨e, _⟩
              · exact .inl e
              · right; omega
            have hK'w : ∀ x, K' x → K x ∨ x = b ∨ w.heap.size ≤ x := fun x hx => by
              rw [hK'] at hx
              rcases hx with hx | hx | hx | hx
              · exact .inl hx
              · exact .inr (.inl hx)
              · rw [hx]; exact .inr hb1w
              · rw [hx]; exact .inr hb2w
            have hK'M : ∀ x, K' x → ¬ M x := fun x hx hm => by
              rcases hK'w x hx with h' | h' | h'
              · exact h.apart x h' hm
              · exact hM (by rw [← h']; exact hm)
              · have := hMl x hm; omega
            have hl1 : PatV K' wr (.slice (some ⟨b, 0, none⟩) k c) m := ⟨_, k, c, rfl, hn, (hpr.bts (by omega) (by omega)).mono' fun x hx => by rw [hx]; exact hKb⟩
            have hl4 : PatV K' wr (.slice (some ⟨b, 0, none⟩) (k + j) c) m := ⟨_, k + j, c, rfl, hFc, (hpr.bts (by omega) (by omega)).mono' fun x hx => by rw [hx]; exact hKb⟩
            have hl2 : PatV K' wr (.slice (some ⟨b1, 0, none⟩) (k + 1) c1) m := by
              refine ⟨_, k + 1, c1, rfl, hn3, ?_⟩
              rcases hor3 with ⟨e, e', hh⟩ | ⟨e, hh, _⟩
              · rw [e]; exact (hpr.bts (by omega) (by omega)).mono' fun x hx => by rw [hx]; exact hKb
              · have hne : b1 ≠ b := by omega
                exact (PatB.bts (Row1.keep hh (((k4.old _).trans' k5).trans' hkr) hne) (Nat.le_refl _) (by omega)).mono' fun x hx => by rw [hx]; exact hKb1
            have hl3 : PatV K' wr (.slice (some ⟨b2, 0, none⟩) (k + 2) c2) m := by
              refine ⟨_, k + 2, c2, rfl, hn5, ?_⟩
              rcases hor5 with ⟨e, e', hh⟩ | ⟨e, hh, _⟩
              · rw [e]; exact (hpr.bts (by omega) (by omega)).mono' fun x hx => by rw [hx]; exact hKb
              · have hne : b2 ≠ b := by omega
                exact (PatB.bts (Row1.keep hh hkr hne) (Nat.le_refl _) (by omega)).mono' fun x hx => by rw [hx]; exact hKb2
            have hBr := HB1.out.keep (w' := wr) (KW.mono fun k' _ hs e => by
              rcases hs with hs | hs
              · exact hK (by rw [← e]; exact hs)
              · exact hM (by rw [← e]; exact hs))
            have KMr : Keeps (fun k' => ¬ M k' ∧ ¬ k' = b) w wr := HKM1.out.trans' (KW.mono fun k' _ hs => hs.2)
            have hK'l : ∀ x, K' x → x < wr.heap.size := fun x hx => by
              have : x < W1.heap.size ∨ x = b1 ∨ x = b2 := by
                rw [hK'] at hx
                rcases hx with hx | hx | hx
                · left; exact HB1.out.lt x (.inl hx)
                · left; rw [hx]; exact hbw
                · exact .inr hx
              rcases this with h' | h' | h'
              · omega
              · rw [h']
                rcases hor3 with ⟨e, _⟩ | ⟨e, hh, _⟩
                · rw [e]; omega
                · have := Row1.lt hh; have := k4.size; have := k5.size; omega
              · rw [h']
                rcases hor5 with ⟨e, _⟩ | ⟨e, hh, _⟩
                · rw [e]; omega
                · have := Row1.lt hh; omega
            clear hK' hpr hkr hor3 hor5 k3 k4 k5 k2 hin H5
            obtain ⟨n1, hn1⟩ : ∃ n1, n1 = [Value.slice (some ⟨b, 0, none⟩) k c, .slice (some ⟨b1, 0, none⟩) (k + 1) c1, .slice (some ⟨b2, 0, none⟩) (k + 2) c2, .slice (some ⟨b, 0, none⟩) (k + j) c] := ⟨_, rfl⟩
            obtain ⟨W6, hW6⟩ : ∃ W, W = wr.alloc (.cells #[.slice (some ⟨b, 0, none⟩) k c, .slice (some ⟨b1, 0, none⟩) (k + 1) c1, .slice (some ⟨b2, 0, none⟩) (k + 2) c2, .slice (some ⟨b, 0, none⟩) (k + j) c] 46) := ⟨_, rfl⟩
            have k6 : Old wr W6 := by rw [hW6]; exact (Keeps.refl _ _).alloc _
            have hb6 : W6.heap[wr.heap.size]? = some (.cells #[.slice (some ⟨b, 0, none⟩) k c, .slice (some ⟨b1, 0, none⟩) (k + 1) c1, .slice (some ⟨b2, 0, none⟩) (k + 2) c2, .slice (some ⟨b, 0, none⟩) (k + j) c] 46 (0, 0)) := by rw [hW6]; exact heap_alloc_new _ _
            have hB6 := hBr.keep (k6.old _)
            have hrow6 := hB6.l
            have d0 : wr.cell? ⟨p, 0, none⟩ = some (.slice AL es.length cL) := cell_of_heap hBr.head
            have hz6 : W6.heap.size = wr.heap.size + 1 := by rw [hW6]; simp
            go_upto_region 15 with fail
            go_upto_region 16 with (at_builtin; rw [← hW6]; refine wpList_append_ex _ (by rfl) _ _ 60 46 (by rfl) Try.underlying60 info46 (by rfl) (by omega) (by rfl) hrow6 (some ⟨wr.heap.size, 0, none⟩) 4 4 [Value.slice (some ⟨b, 0, none⟩) k c, .slice (some ⟨b1, 0, none⟩) (k + 1) c1, .slice (some ⟨b2, 0, none⟩) (k + 2) c2, .slice (some ⟨b, 0, none⟩) (k + j) c] (by rfl) (by rfl) (fun _ => ⟨_, rfl, World.news_of_block hb6⟩) (by intro u hu; simp at hu; rcases hu with rfl | rfl | rfl | rfl <;> rfl) (by omega) (by unfold maxLen; omega) ?_; intro v7 w7 hown7 hgrow7 hat7; have K67 : Keeps (fun k => (Value.slice AL es.length cL).ownBlock ≠ some k) W6 w7 := (Keeps.refl _ W6).grown hgrow7 (fun k _ h hn => hn h); have hh7 := K67.heap hB6.head hB6.parts.1; have u0 : w7.cell? ⟨p, 0, none⟩ = some (.slice AL es.length cL) := cell_of_heap hh7; have uf : ∀ i, w7.frozen? ⟨p, i, none⟩ = false := fun i => frozen_of_heap hh7; obtain ⟨w8, e8, hd8, hl8, hm8, ho8, k8, hv8, hvp8⟩ := hB6.pushL (ns := n1) K67 (by rw [hn1]; exact hown7) hat7; obtain ⟨A7, c7, hv7, _, _⟩ := own_slice hown7; subst hv7)
            rw [← e8]
            clear e8 hown7 hgrow7 hat7 K67 hh7 u0 uf hW6 hb6 hrow6
            have hn1l : n1.length = 4 := by rw [hn1]; rfl
            have d1 : w8.cell? ⟨p, 1, none⟩ = some (.slice AM es.length cM) := cell_of_heap hd8
            obtain ⟨W9, hW9⟩ : ∃ W, W = w8.alloc (.cells #[.int .i64 (m : Int), .int .i64 (m : Int), .int .i64 (m : Int), .int .i64 (m : Int)] 3) := ⟨_, rfl⟩
            have k9 : Old w8 W9 := by rw [hW9]; exact (Keeps.refl _ _).alloc _
            have hb9 : W9.heap[w8.heap.size]? = some (.cells #[.int .i64 (m : Int), .int .i64 (m : Int), .int .i64 (m : Int), .int .i64 (m : Int)] 3 (0, 0)) := by rw [hW9]; exact heap_alloc_new _ _
            have hm9 := own_keeps hm8 k9 (fun _ _ => trivial)
            have hl9 := own_keeps hl8 k9 (fun _ _ => trivial)
            have ho9 := own_keeps ho8 k9 (fun _ _ => trivial)
            have hd9 := k9.heap hd8 trivial
            have hz8 := k8.size
            have hz9 := k9.size
            go_wp2_with (at_builtin; rw [← hW9]; refine wpList_append_ex _ (by rfl) _ _ 54 3 (by rfl) Try.underlying54 info3 (by rfl) (by omega) (by rfl) hm9 (some ⟨w8.heap.size, 0, none⟩) 4 4 [.int .i64 (m : Int), .int .i64 (m : Int), .int .i64 (m : Int), .int .i64 (m : Int)] (by rfl) (by rfl) (fun _ => ⟨_, rfl, World.news_of_block hb9⟩) (by intro u hu; simp at hu; rw [hu]; rfl) (by omega) (by unfold maxLen; omega) ?_; intro v10 w10 hown10 hgrow10 hat10; have K10 : Keeps (fun k => (Value.slice AM es.length cM).ownBlock ≠ some k) W9 w10 := (Keeps.refl _ W9).grown hgrow10 (fun k _ h hn => hn h); have hmp : (Value.slice AM es.length cM).ownBlock ≠ some p := hB6.parts.2.1; have hh10 := K10.heap hd9 hmp; have y1 : w10.cell? ⟨p, 1, none⟩ = some (.slice AM es.length cM) := cell_of_heap hh10; have yf : ∀ i, w10.frozen? ⟨p, i, none⟩ = false := fun i => frozen_of_heap hh10; obtain ⟨A10, c10, hv10, _, _⟩ := own_slice hown10; subst hv10)
            clear hW9 hb9 d1
            have hz10 := K10.size
            obtain ⟨W11, hW11⟩ : ∃ W, W = w10.setCell ⟨p, 1, none⟩ (.slice A10 (es.length + 4) c10) := ⟨_, rfl⟩
            have k11 : Keeps (· ≠ p) w10 W11 := by rw [hW11]; exact (Keeps.refl _ _).setCell (fun _ h => h rfl) _
            have hd11 : W11.heap[p]? = some (.cells #[.slice A7 (es.length + 4) c7, .slice A10 (es.length + 4) c10, .int .i64 (s2 : Int), vO] 63 (0, 0)) := by rw [hW11, heap_setCell hh10]; rfl
            rw [hn1l] at hl8 hl9
            have hvp10 : (Value.slice A10 (es.length + 4) c10).ownBlock ≠ some p := own_ne_heap hown10 hh10 (by decide)
            have hl11 := own_keeps (own_keeps hl9 K10 (fun x hx => fun e => own_ne hl9 hm9 (by decide) hx e)) k11 (fun x hx e => hvp8 (by rw [hx, e]))
            have hm11 := own_keeps hown10 k11 (fun x hx e => hvp10 (by rw [hx, e]))
            have hvo : vO.ownBlock ≠ some p := hB6.parts.2.2.1
            have ho11 := own_keeps (own_keeps ho9 K10 (fun x hx => fun e => own_ne ho9 hm9 (by decide) hx e)) k11 (fun x hx e => hvo (by rw [hx, e]))
            have kM : Keeps (fun x => ¬ M x) wr W11 := ((((k6.old _).trans' k8).trans' (k9.old _)).trans' (K10.mono fun x _ hx e => hx (hB6.mf x e))).trans' (k11.mono fun x _ hx e => hx (by rw [e]; exact h.fp))
            have kK : Keeps K' wr W11 := kM.mono fun x _ hx => hK'M x hx
            have hM10 : ∀ x, (Value.slice A10 (es.length + 4) c10).ownBlock = some x → M x ∨ W6.heap.size ≤ x := fun x hx => by
              rcases hat10 with e | e
              · rw [e] at hx; exact .inl (hB6.mf x hx)
              · rw [e] at hx; injection hx with hx; right; omega
            have hsl : (fun e : Value × Nat => e.1) = (·.1) := rfl
            have hB11 : BookM K' (fun x => M x ∨ (Value.slice A7 (es.length + 4) c7).ownBlock = some x ∨ (Value.slice A10 (es.length + 4) c10).ownBlock = some x) W11 p (.slice A7 (es.length + 4) c7) (.slice A10 (es.length + 4) c10) vO
                (es ++ [(Value.slice (some ⟨b, 0, none⟩) k c, m), (.slice (some ⟨b1, 0, none⟩) (k + 1) c1, m), (.slice (some ⟨b2, 0, none⟩) (k + 2) c2, m), (.slice (some ⟨b, 0, none⟩) (k + j) c, m)]) os s2 := by
              refine ⟨hd11, ?_, fun x hx => .inr (.inl hx), ?_, fun x hx => .inr (.inr hx), ho11, fun x hx => .inl (hBr.of x hx), fun e he => ?_, fun e he => ((hBr.outs e he).mono hKK).keep kK, .inl h.fp, fun x hx hm => ?_, fun x hx => ?_, fun e he => ?_⟩
              · rw [List.length_append, List.map_append]
                rw [hn1] at hl11
                exact hl11
              · rw [List.length_append, List.map_append]
                exact hm11
              · rcases List.mem_append.1 he with he | he
                · exact ((hBr.ents e he).mono hKK).keep kK
                · simp at he
                  rcases he with rfl | rfl | rfl | rfl
                  · exact hl1.keep kK
                  · exact hl2.keep kK
                  · exact hl3.keep kK
                  · exact hl4.keep kK
              · have h1 := hK'l x hx
                rcases hm with hm | hm | hm
                · exact hK'M x hx hm
                · rcases hv8 x hm with h' | h'
                  · exact hK'M x hx h'
                  · omega
                · rcases hM10 x hm with h' | h'
                  · exact hK'M x hx h'
                  · omega
              · have hzk := kM.size
                rcases hx with hx | hx | hx | hx
                · have := hK'l x hx; omega
                · have := hMl x hx; omega
                · exact own_lt hl11 hx
                · exact own_lt hm11 hx
              · rcases List.mem_append.1 he with he | he
                · exact hBr.ml e he
                · simp at he
                  rcases he with rfl | rfl | rfl | rfl <;> exact Nat.le_trans hml (by decide)
            have HB11 := hid hB11
            have HKK := hid (KMr.trans' (kM.mono fun x _ hx => hx.1))
            clear hB11 hl11 hm11 ho11 hd11 hl9 hm9 ho9 hd9 hl8 hm8 ho8 hd8 hown10 hgrow10 hh10 hl1 hl2 hl3 hl4 K10 k11 kM kK KMr hBr hB6 k6 k8 k9 KW
            first | go_end0 | refine bodyPost_ret (results_none rfl _ _ _) rfl ?_
            rw [← hW11]
            exact ⟨rfl, K', _, _, _, _, HB11.out, by simp, fun x hx => by
              rcases hK'w x hx with h' | h' | h'
              · exact .inl h'
              · exact .inr (.inl h')
              · exact .inr (.inr h'), fun x hx => by
              rcases hx with hx | hx | hx
              · exact .inl hx
              · rcases hv8 x hx with h' | h'
                · exact .inl h'
                · right; omega
              · rcases hM10 x hx with h' | h'
                · exact .inl h'
                · right; omega, HKK.out⟩
end Go.Proofs.Ytgnndggbjipioaa
